/- Tree.all's iterator where the root is a leaf · Tree.List where the root is a leaf and all entries are asked for. -/
import Derived.Test.YtmgcaohpbaiiaaaGreatDoorU8
import Derived.Test.YtmgcaohpbaiiaaaGreatDoorAll
import Derived.RecoverIn
namespace Go.Proofs.YtmgcaohpbaiiaaaGreatDoor
/-! TAll -/
section
set_option linter.unusedSimpArgs false
set_option linter.unusedVariables false
open Go.RowKit Go.Maps Go.Shelf

attribute [local go_sem] Oper.semAt_some wide_room wide_fn wide_room_in wide_fn_in
section
variable {w0 w W : World} {s dk t root : Nat} {F F' : Nat → Prop} {n N : Int} {V D : Int → ByteArray} {S S1 : TS}
theorem tall_any (key : ByteArray) (w : World) : Calls Tryz.prog 37 #[.pointer (some ⟨t, 0, none⟩), .string key] w fun e w' => e = .returned (.func (.func 72) #[] #[.pointer (some ⟨w.heap.size, 0, none⟩), .pointer (some ⟨w.heap.size + 1, 0, none⟩)]) ∧ w' = (w.alloc (.cells #[.pointer (some ⟨t, 0, none⟩)] 29)).alloc (.cells #[.string key] 9) := by
  go_enter Tryz.func37, Tryz.ntmps37
  go_wp2
  go_ret
  exact ⟨rfl, rfl⟩
theorem JJ.mono {K : List Ent → World → (Nat → Prop) → Prop} {pre : List Ent} {O : Nat → Prop} {M : Int} (h : JJ w0 s dk t root n V D S K pre W F N O) (hle : N ≤ M) : JJ w0 s dk t root n V D S K pre W F M O := ⟨⟨h.tin.sin.mono hle, h.tin.lt, h.tin.at_, h.tin.shows⟩, h.own, h.has⟩
set_option maxRecDepth 100000 in
set_option maxHeartbeats 4000000 in
theorem all1_any {K : List Ent → World → (Nat → Prop) → Prop} {Jx : World → Prop} {NX : Int} (hK : KStays K) (es : List Ent) (pgs : List Nat) (from_ : ByteArray) (l2 : Nat) (hY : YieldsOk w0 s dk t root n V D S K Jx es NX l2) (hw : walkM from_ 66 S root = some (es, pgs)) (tb fb : Nat)
    (W : World) (F : Nat → Prop) (N : Int) (O : Nat → Prop) (hJ : JJ w0 s dk t root n V D S K [] W F N O) (htb : W.heap[tb]? = some (.cells #[.pointer (some ⟨t, 0, none⟩)] 29 (0, 0))) (hfb : W.heap[fb]? = some (.cells #[.string from_] 9 (0, 0))) (hN : N + 4 * (pgs.length : Int) < 1000000000) (hNX : N + 4 * (pgs.length : Int) ≤ NX) (m : Nat) :
    CallsIn Fence.wide m Tryz.prog 72 (#[.func (.yield l2) #[] #[]] ++ #[.pointer (some ⟨tb, 0, none⟩), .pointer (some ⟨fb, 0, none⟩)]) W fun e w' => (∃ v, e = .returned v) ∧ ((∃ F1 O1, JJ w0 s dk t root n V D S K es w' F1 NX O1) ∨ Jx w') := by
  have c1 : W.drew.cell? ⟨tb, 0, none⟩ = some (.pointer (some ⟨t, 0, none⟩)) := by rw [cell_of (w := W.drew) htb]; rfl
  have c2 : W.drew.cell? ⟨fb, 0, none⟩ = some (.string from_) := by rw [cell_of (w := W.drew) hfb]; rfl
  have c3 : W.drew.cell? ⟨t, 1, none⟩ = some (.int .i64 root) := (hJ.made hK ((Below.refl _ W).drew)).tin.cell.2
  have hWK : ∀ m, CallsIn Fence.wide m Tryz.prog 47 #[.pointer (some ⟨t, 0, none⟩), .int .i64 root, .int .i64 0, .string from_, .func (.func 73) #[] #[], .func (.yield l2) #[] #[]] W.drew fun e w' => (∃ v, e = .returned v) ∧ ((∃ F1 O1, JJ w0 s dk t root n V D S K es w' F1 NX O1) ∨ Jx w') := fun m => by
    have := twalkY_any hK es l2 hY from_ 66 root es pgs [] W.drew F N O m hw (List.prefix_refl _) (hJ.made hK ((Below.refl _ W).drew)) (by omega) hN hNX
    rw [show (66 : Int) - ((66 : Nat) : Int) = 0 by omega] at this
    refine this.mono fun e w' h => ?_
    rcases h with ⟨he, F1, O1, hj, -⟩ | ⟨he, hx⟩
    · exact ⟨⟨_, he⟩, .inl ⟨F1, O1, hj.mono hNX⟩⟩
    · exact ⟨⟨_, he⟩, .inr hx⟩
  have HWK := Lib.hid (hWK)
  clear hWK hJ htb hfb
  refine callsIn_of_wp Tryz.func72 rfl trivial ?_ rfl
  simp only [Tryz.ntmps72, List.size_toArray, List.length_cons, List.length_nil, Nat.reduceAdd, Nat.reduceSub, Array.replicate_succ, Array.replicate_zero, List.push_toArray, List.append_toArray, List.nil_append, List.cons_append]
  gi_region_with (gi_at_call 47; refine (HWK.out _).mono ?_; rintro e w5 ⟨⟨v, rfl⟩, hj⟩)
  all_goals
    go_end0
    exact ⟨⟨_, rfl⟩, hj⟩
end
end
/-! TList -/
section
set_option linter.unusedSimpArgs false
set_option linter.unusedVariables false
open Go.RowKit Go.Maps Go.Shelf

attribute [local go_sem] Oper.semAt_some wide_room wide_fn wide_room_in wide_fn_in
theorem wpListIn_append_run {P : Program} {FF : Fence} {k : Nat} {w w' : World} {v v' x : Value} {ops : Array Oper} {rest : List Oper} {o : Oper} {a : Act} {Q : Exit → Act → World → Prop} {s y : Operand} {t u ty : TypeId} (hr : (Builtin.append_ #[t, u] ty #[v, x]).run P w = .ok v' w') (hgd : o.guard = none) (hty : o.type = ty)
    (ho : o.op = .call { callee := .builtin .append, args := #[s, y], argTypes := #[t, u] }) (hs : a.eval s = v) (hy : a.eval y = x) (h : wpListIn FF k P ops Q rest (a.put o.dst v') w') : wpListIn FF k P ops Q (o :: rest) a w := by
  refine wpListIn_plain hgd fun K hK => ?_
  unfold Oper.wpIn
  refine ⟨?_, ?_⟩
  · simp [Oper.about, ho, resolve, Target.leads, Sem.run_pure]
  · rw [Oper.semAt_plain FF _ _ (by rw [ho]; intro c hc'; cases hc')]
    subst hty
    simp [execOp, ho, resolve, invoke, builtin, hs, hy, hr, Result.andThen]
    exact hK _ _ h
theorem settle_idleIn (p : Addr) (m : Nat) (w : World) :
    CallsDIn Fence.wide m Tryz.prog 27 #[.pointer (some p)] .returning w fun e u' w' => e = .returned (.tuple #[]) ∧ u' = .returning ∧ w' = w := by
  refine callsDIn_of_wpSIn Tryz.func27 rfl trivial fun c₀ cs hu => ?_
  apply wpSIn_seq
  apply wpSIn_region
  simp [wpOpsSIn, go_sem, recoverD, hu, Tryz.ntmps27, Exit.thenS]
  apply wpSIn_seq
  apply wpSIn_region
  simp [wpOpsSIn, go_sem, Exit.thenS]
  refine wpSIn_cond (t := false) (by simp [Act.eval, Array.replicate]) ?_
  simp only [Bool.false_eq_true, if_false]
  refine wpSIn_of_wpIn rfl (wpIn_skip ?_)
  cases c₀
  simp_all [bodyPostS, results, Tryz.results27]
theorem list1_idleIn (eb ob : Nat) (u : FrameMode) (m : Nat) (W : World) (h : W.cell? ⟨eb, 0, none⟩ = some (.int .i64 0)) : CallsDIn Fence.wide m Tryz.prog 36 #[.pointer (some ⟨eb, 0, none⟩), .pointer (some ⟨ob, 0, none⟩)] u W fun e u' w' => u' = u ∧ e = .returned (.tuple #[]) ∧ w' = W := by
  refine callsDIn_of_wp Tryz.func36 rfl trivial ?_
  simp only [Tryz.ntmps36, List.size_toArray, List.length_cons, List.length_nil, Nat.reduceAdd, Nat.reduceSub, Array.replicate_succ, Array.replicate_zero, List.push_toArray, List.append_toArray, List.nil_append, List.cons_append]
  gi_wp2
  go_end0
  exact ⟨rfl, rfl⟩
section
variable {w0 w W : World} {s dk t root : Nat} {F F' : Nat → Prop} {n N : Int} {V D : Int → ByteArray} {S S1 : TS}
/-- what the caller has: the list, how many he wants, no error; and what was there ahead of the call -/
def LI (wA : World) (F : Nat → Prop) (t nb ob eb B0 : Nat) (nn : Int) (pre : List Ent) (W : World) (O : Nat → Prop) : Prop :=
  ∃ v, W.heap[ob]? = some (.cells #[v] 31 (0, 0)) ∧ W.heap[nb]? = some (.cells #[.int .i64 nn] 3 (0, 0)) ∧ W.heap[eb]? = some (.cells #[.int .i64 0] 26 (0, 0)) ∧ EOwn W B0 v pre ∧ (∀ b, O b ↔ (b = ob ∨ b = nb ∨ b = eb ∨ v.ownBlock = some b ∨ (b < wA.heap.size ∧ ¬ F b ∧ b ≠ t))) ∧ B0 ≤ W.heap.size ∧ ∀ b, b < wA.heap.size → ¬ F b → b ≠ t → W.heap[b]? = wA.heap[b]?
theorem LI.stays {wA : World} {F : Nat → Prop} {t nb ob eb B0 : Nat} {nn : Int} : KStays (LI wA F t nb ob eb B0 nn) := by
  rintro pre A B O ⟨v, h1, h2, h3, h4, h5, h6, h7⟩ hsz hbl
  exact ⟨v, (hbl _ ((h5 _).2 (.inl rfl))).trans h1, (hbl _ ((h5 _).2 (.inr (.inl rfl)))).trans h2, (hbl _ ((h5 _).2 (.inr (.inr (.inl rfl))))).trans h3, h4.keep fun b hb => hbl b ((h5 b).2 (.inr (.inr (.inr (.inl hb))))), h5, by omega, fun b h1 h2 h3 => (hbl b ((h5 b).2 (.inr (.inr (.inr (.inr ⟨h1, h2, h3⟩)))))).trans (h7 b h1 h2 h3)⟩
def LIN (wA : World) (F : Nat → Prop) (t nb ob eb B0 : Nat) (nn : Int) (pre : List Ent) (W : World) (O : Nat → Prop) : Prop := LI wA F t nb ob eb B0 nn pre W O ∧ (pre.length : Int) < nn
theorem LIN.stays {wA : World} {F : Nat → Prop} {t nb ob eb B0 : Nat} {nn : Int} : KStays (LIN wA F t nb ob eb B0 nn) := fun pre A B O h hsz hbl => ⟨LI.stays pre A B O h.1 hsz hbl, h.2⟩
set_option maxRecDepth 100000 in
set_option maxHeartbeats 4000000 in
theorem tlist_any (h : TIn w0 w s dk F n V D N t root S) (from_ : ByteArray) (es : List Ent) (pgs : List Nat) (hw : walkM from_ 66 S root = some (es, pgs)) (nn : Int) (hnn : 1 ≤ nn) (hes : es.length ≤ 1000000) (hN : N + 4 * (pgs.length : Int) < 1000000000) :
    Calls Tryz.prog 13 #[.pointer (some ⟨t, 0, none⟩), .string from_, .int .i64 nn] w fun e w' => ∃ F' v, e = .returned (.tuple #[v, .int .i64 0]) ∧ TRun w0 w w' s dk F F' n V D (N + 4 * (pgs.length : Int)) t root S ∧ Row w' F' w.heap.size v (es.take nn.toNat) := by
  have hb0 := h.sin.below.size
  have hsl := h.sin.slt
  have htl := lt_of h.at_.obj
  obtain ⟨W3, hW3⟩ : ∃ W3, ((w.alloc (.cells #[.int .i64 nn] 3)).alloc (.cells #[.slice none 0 0] 31)).alloc (.cells #[.int .i64 0] 26) = W3 := ⟨_, rfl⟩
  have hs3 : W3.heap.size = w.heap.size + 3 := by rw [← hW3]; simp
  have hB3 : Below w.heap.size w W3 := by rw [← hW3]; exact (((Below.refl w.heap.size w).alloc (Nat.le_refl _) _).alloc (by simp) _).alloc (by simp; omega) _
  have o1 : W3.heap[w.heap.size]? = some (.cells #[.int .i64 nn] 3 (0, 0)) := by rw [← hW3]; exact (Below.heap_alloc _ _ _ (by simp; omega)).trans ((Below.heap_alloc _ _ _ (by simp)).trans (heap_alloc_new' w _))
  have o2 : W3.heap[w.heap.size + 1]? = some (.cells #[.slice none 0 0] 31 (0, 0)) := by
    rw [← hW3]
    have := heap_alloc_new' (w.alloc (.cells #[.int .i64 nn] 3)) (.cells #[.slice none 0 0] 31 (0, 0))
    rw [World.size_alloc] at this
    exact (Below.heap_alloc _ _ _ (by simp)).trans this
  have o3 : W3.heap[w.heap.size + 2]? = some (.cells #[.int .i64 0] 26 (0, 0)) := by
    rw [← hW3]
    have := heap_alloc_new' ((w.alloc (.cells #[.int .i64 nn] 3)).alloc (.cells #[.slice none 0 0] 31)) (.cells #[.int .i64 0] 26 (0, 0))
    rw [World.size_alloc, World.size_alloc] at this
    exact this
  obtain ⟨W5, hW5⟩ : ∃ W5, (W3.alloc (.cells #[.pointer (some ⟨t, 0, none⟩)] 29)).alloc (.cells #[.string from_] 9) = W5 := ⟨_, rfl⟩
  have hs5 : W5.heap.size = w.heap.size + 5 := by rw [← hW5]; simp; omega
  have hB5 : Below W3.heap.size W3 W5 := by rw [← hW5]; exact ((Below.refl W3.heap.size W3).alloc (Nat.le_refl _) _).alloc (by simp) _
  have p1 : W5.heap[W3.heap.size]? = some (.cells #[.pointer (some ⟨t, 0, none⟩)] 29 (0, 0)) := by rw [← hW5]; exact (Below.heap_alloc _ _ _ (by simp)).trans (heap_alloc_new' W3 _)
  have p2 : W5.heap[W3.heap.size + 1]? = some (.cells #[.string from_] 9 (0, 0)) := by
    rw [← hW5]
    have := heap_alloc_new' (W3.alloc (.cells #[.pointer (some ⟨t, 0, none⟩)] 29)) (.cells #[.string from_] 9 (0, 0))
    rwa [World.size_alloc] at this
  have q1 := (hB5.block _ (by omega)).trans o1
  have q2 := (hB5.block _ (by omega)).trans o2
  have q3 := (hB5.block _ (by omega)).trans o3
  have h5 := (h.made hB3).made hB5
  have hnf : ∀ b, w.heap.size ≤ b → ¬ F b := fun b hb hf => by have := h.lt b hf; omega
  have hAL := tall_any (t := t) from_ W3
  rw [hW5] at hAL
  have eg : ∀ args w, (callFunc 72 args).run Tryz.prog w = .ok (.enter 72 args) w := enters_of Tryz.func72 (by kernel_rfl) rfl
  have ens : ∀ args w, (callFunc 27 args).run Tryz.prog w = .ok (.enter 27 args) w := enters_of Tryz.func27 (by kernel_rfl) rfl
  have el : ∀ args w, (callFunc 36 args).run Tryz.prog w = .ok (.enter 36 args) w := enters_of Tryz.func36 (by kernel_rfl) rfl
  have c0 : W3.cell? ⟨w.heap.size, 0, none⟩ = some (.int .i64 nn) := by rw [cell_of o1]; rfl
  have HLI0 : Hid (LIN w F t w.heap.size (w.heap.size + 1) (w.heap.size + 2) W5.heap.size nn [] W5 (fun b => b = w.heap.size + 1 ∨ b = w.heap.size ∨ b = w.heap.size + 2 ∨ (b < w.heap.size ∧ ¬ F b ∧ b ≠ t))) := ⟨⟨.slice none 0 0, q2, q1, q3, EOwn.nil _ _, fun b => by simp [Value.ownBlock], Nat.le_refl _, fun b h1 h2 h3 => (hB5.block b (by omega)).trans (hB3.block b h1)⟩, by simp; omega⟩
  have HW3 := Lib.hid hW3
  have z0 : ¬ nn < 1 := by omega
  refine (callsIn_wide (n := 9)).1 ?_
  refine callsIn_of_wp_marks Tryz.func13 rfl trivial ?_ rfl
  simp only [Tryz.ntmps13, List.size_toArray, List.length_cons, List.length_nil, Nat.reduceAdd, Nat.reduceSub, Array.replicate_succ, Array.replicate_zero, List.push_toArray, List.append_toArray, List.nil_append, List.cons_append]
  clear o1 o2 o3 hW5
  gi_wp2
  refine (callsIn_wide.2 hAL).mono ?_
  rintro e w' ⟨rfl, rfl⟩
  clear hAL
  gi_wp2
  refine range_ents (w0 := w0) (s := s) (dk := dk) (t := t) (root := root) (F := F) (n := n) (N := N) (V := V) (D := D) (S := S) (gf := 72) (lb := #[.pointer (some ⟨w.heap.size + 3, 0, none⟩), .pointer (some ⟨w.heap.size + 3 + 1, 0, none⟩)]) (full := es) (NM := N + 4 * (pgs.length : Int)) (xid := 0) rfl eg
    (LIN w F t w.heap.size (w.heap.size + 1) (w.heap.size + 2) w'.heap.size nn) LIN.stays (LI w F t w.heap.size (w.heap.size + 1) (w.heap.size + 2) w'.heap.size nn (es.take nn.toNat)) ?hseq (fun b => b = w.heap.size + 1 ∨ b = w.heap.size ∨ b = w.heap.size + 2 ∨ (b < w.heap.size ∧ ¬ F b ∧ b ≠ t)) h5 ?mine HLI0.out ?hO 8 ?assign ?body ?done ?exit
  case hseq =>
    intro K Jx l2 m W O hK hY hB hO1 hO2 hJ
    rw [← hs3]
    exact all1_any hK es pgs from_ l2 hY hw W3.heap.size (W3.heap.size + 1) W F N O hJ ((hB.block _ (by omega)).trans p1) ((hB.block _ (by omega)).trans p2) hN (Int.le_refl _) m
  case mine =>
    refine ⟨fun b hb => ?_, fun b hb => ?_, fun b hb => ?_, fun b hb => ?_⟩
    · rcases hb with rfl | rfl | rfl | hb <;> omega
    · rcases hb with rfl | rfl | rfl | hb
      · exact hnf _ (by omega)
      · exact hnf _ (by omega)
      · exact hnf _ (by omega)
      · exact hb.2.1
    · rcases hb with rfl | rfl | rfl | hb
      · omega
      · omega
      · omega
      · exact hb.2.2
    · rcases hb with rfl | rfl | rfl | hb <;> omega
  case hO =>
    rintro O0' ⟨⟨v, k1, k2, k3, k4, k5, k6, k7⟩, -⟩ b hb
    rw [q2] at k1
    simp at k1
    subst k1
    have := (k5 b).1 hb
    simpa [Value.ownBlock] using this
  case assign =>
    intro m l2 x W K hK
    unfold encE at hK
    unfold encE
    gi_wp2
    exact hK
  case body =>
    intro m l2 dm pre x B W F1 N1 O1 hpre hNM ht hm hk hbx hBo hBf hBl hBd hdm1 hdm2 hlW
    obtain ⟨⟨v, k1, k2, k3, k4, k5, k6, k7⟩, hpn⟩ := hk
    obtain ⟨ao, co, rfl, hrow, hown⟩ := k4.parts
    have hpl : (pre ++ [x]).length ≤ es.length := hpre.length_le
    simp only [List.length_append, List.length_cons, List.length_nil] at hpl
    obtain ⟨W2, hW2⟩ : ∃ W2, W.alloc (boxE x.1 x.2) = W2 := ⟨_, rfl⟩
    have hBa : Below W.heap.size W W2 := by rw [← hW2]; exact (Below.refl _ W).alloc (Nat.le_refl _) _
    have hs2 : W2.heap.size = W.heap.size + 1 := by rw [← hW2]; simp
    have hbx2 : W2.heap[W.heap.size]? = some (boxE x.1 x.2) := by rw [← hW2]; exact heap_alloc_new' W _
    have hbox : EBox W2 W.heap.size (x.1, x.2) := hbx2
    obtain ⟨a2, c2, w3, hr, ho, hg, hao⟩ := ent_append W2 w'.heap.size (.slice ao pre.length co) pre [x] 1 (some ⟨W.heap.size, 0, none⟩) (by have := k4.made hBa; exact this) hbox.row (.inr ⟨_, _, rfl⟩) (by simp; omega) (by omega)
    have b1 : W.cell? ⟨B, 0, none⟩ = some (.string x.1) := by rw [cell_of hbx]; rfl
    have b2 : W.cell? ⟨B, 0 + 1, none⟩ = some (.string x.2) := by rw [cell_of hbx]; rfl
    have c1 : W.cell? ⟨w.heap.size + 1, 0, none⟩ = some (.slice ao pre.length co) := by rw [cell_of k1]; rfl
    clear HLI0
    simp only [Array.set_set, List.setIfInBounds_toArray, List.set_cons_succ, List.set_cons_zero]
    have hr' : (Builtin.append_ #[31, 31] 31 #[.slice ao pre.length co, .slice (some ⟨W.heap.size, 0, none⟩) 1 1]).run Tryz.prog W2 = .ok (.slice a2 (pre.length + 1) c2) w3 := hr
    have c3 : W2.cell? ⟨w.heap.size + 1, 0, none⟩ = some (.slice ao pre.length co) := by rw [cell_of ((hBa.block _ (lt_of k1)).trans k1)]; rfl
    have k1' : w3.heap[w.heap.size + 1]? = some (.cells #[.slice ao pre.length co] 31 (0, 0)) := (hg.block _ (by have := lt_of k1; omega) (fun e => by have := (hown _ e.symm).1; omega)).trans ((hBa.block _ (lt_of k1)).trans k1)
    have k2' : w3.heap[w.heap.size]? = some (.cells #[.int .i64 nn] 3 (0, 0)) := (hg.block _ (by have := lt_of k2; omega) (fun e => by have := (hown _ e.symm).1; omega)).trans ((hBa.block _ (lt_of k2)).trans k2)
    have d1 : w3.cell? ⟨w.heap.size + 1, 0, none⟩ = some (.slice ao pre.length co) := by rw [cell_of k1']; rfl
    have d2 : w3.cell? ⟨w.heap.size, 0, none⟩ = some (.int .i64 nn) := by rw [cell_of k2']; rfl
    have f1 : w3.frozen? ⟨w.heap.size + 1, 0, none⟩ = false := frozen_of k1' 0
    have HFIN : Hid (TIn w0 (w3.setCell ⟨w.heap.size + 1, 0, none⟩ (.slice a2 (pre.length + 1) c2)) s dk F1 n V D N1 t root S ∧ ∃ O2, Mine (w3.setCell ⟨w.heap.size + 1, 0, none⟩ (.slice a2 (pre.length + 1) c2)) F1 O2 t l2 dm ∧
        LI w F t w.heap.size (w.heap.size + 1) (w.heap.size + 2) w'.heap.size nn (pre ++ [x]) (w3.setCell ⟨w.heap.size + 1, 0, none⟩ (.slice a2 (pre.length + 1) c2)) O2 ∧
        ∀ (b : Nat) (o : Obj), W.heap[b]? = some o → ¬ O1 b → (w3.setCell ⟨w.heap.size + 1, 0, none⟩ (.slice a2 (pre.length + 1) c2)).heap[b]? = some o ∧ ¬ O2 b) := by
      have hk1 := lt_of k1
      have hk2 := lt_of k2
      have hk3 := lt_of k3
      have hU3 : Upd (fun b => b = w.heap.size + 1 ∨ (Value.slice ao pre.length co).ownBlock = some b) W w3 := (Upd.below hBa (by omega)).grown hg fun k e _ => .inr e
      have hU : Upd (fun b => b = w.heap.size + 1 ∨ (Value.slice ao pre.length co).ownBlock = some b) W (w3.setCell ⟨w.heap.size + 1, 0, none⟩ (.slice a2 (pre.length + 1) c2)) := hU3.setCell _ (fun _ => .inl rfl) _
      have hsz := hU.size
      have hs4 : Upd (fun b => b = w.heap.size + 1) w3 (w3.setCell ⟨w.heap.size + 1, 0, none⟩ (.slice a2 (pre.length + 1) c2)) := (Upd.refl (fun b => b = w.heap.size + 1) w3).setCell ⟨w.heap.size + 1, 0, none⟩ (fun _ => rfl) _
      have hs3' := hU3.size
      have hn2 : ∀ b, (Value.slice a2 (pre.length + 1) c2).ownBlock = some b → w'.heap.size ≤ b ∧ b < w3.heap.size ∧ (O1 b ∨ W.heap.size ≤ b) := fun b hb => by
        obtain ⟨q1, q2⟩ := ho.lt b hb
        refine ⟨q1, q2, ?_⟩
        rcases hao with e | e
        · exact .inl ((k5 b).2 (.inr (.inr (.inr (.inl (by rw [← e]; exact hb))))))
        · have := Option.some.inj (e.symm.trans hb)
          exact .inr (by omega)
      refine ⟨ht.turnG hU ?_, fun b => b = w.heap.size + 1 ∨ b = w.heap.size ∨ b = w.heap.size + 2 ∨ (Value.slice a2 (pre.length + 1) c2).ownBlock = some b ∨ (b < w.heap.size ∧ ¬ F b ∧ b ≠ t), ⟨?_, ?_, ?_, ?_⟩, ⟨.slice a2 (pre.length + 1) c2, ?_, ?_, ?_, ?_, fun b => Iff.rfl, ?_, fun b h1 h2 h3 => ?_⟩, ?_⟩
      · rintro b (rfl | hb)
        · exact ⟨by omega, hm.out _ ((k5 _).2 (.inl rfl)), by omega, by omega⟩
        · have h1 := (hown b hb).1
          exact ⟨by omega, hm.out _ ((k5 _).2 (.inr (.inr (.inr (.inl hb))))), by omega, by omega⟩
      · rintro b (rfl | rfl | rfl | hb | hb)
        · omega
        · omega
        · omega
        · have := (hn2 b hb).2.1; simpa using this
        · omega
      · rintro b (rfl | rfl | rfl | hb | hb) hf
        · exact hm.out _ ((k5 _).2 (.inl rfl)) hf
        · exact hm.out _ ((k5 _).2 (.inr (.inl rfl))) hf
        · exact hm.out _ ((k5 _).2 (.inr (.inr (.inl rfl)))) hf
        · rcases (hn2 b hb).2.2 with h1 | h1
          · exact hm.out _ h1 hf
          · have := ht.lt b hf; omega
        · exact hm.out _ ((k5 _).2 (.inr (.inr (.inr (.inr hb))))) hf
      · rintro b (rfl | rfl | rfl | hb | hb)
        · omega
        · omega
        · omega
        · have := (hn2 b hb).1; omega
        · exact hb.2.2
      · rintro b (rfl | rfl | rfl | hb | hb)
        · omega
        · omega
        · omega
        · rcases (hn2 b hb).2.2 with h1 | h1
          · exact hm.loop _ h1
          · omega
        · exact hm.loop _ ((k5 _).2 (.inr (.inr (.inr (.inr hb)))))
      · rw [heap_setCell_same k1' 0 _]; rfl
      · exact (hs4.block _ (by omega) (by omega)).trans k2'
      · refine (hs4.block _ (by omega) (by omega)).trans ((hU3.block _ hk3 ?_).trans k3)
        rintro (e | e)
        · omega
        · have := (hown _ e).1; omega
      · exact ho.keep fun b hb => hs4.block b (hn2 b hb).2.1 (by have := (hn2 b hb).1; omega)
      · omega
      · refine (hU.block b (by omega) ?_).trans (k7 b h1 h2 h3)
        rintro (e | e)
        · omega
        · have := (hown _ e).1; omega
      · intro b o hb hno
        have hlt := lt_of hb
        refine ⟨(hU.block b hlt ?_).trans hb, ?_⟩
        · rintro (e | e)
          · exact hno ((k5 _).2 (.inl e))
          · exact hno ((k5 _).2 (.inr (.inr (.inr (.inl e)))))
        · rintro (e | e | e | e | e)
          · exact hno ((k5 _).2 (.inl e))
          · exact hno ((k5 _).2 (.inr (.inl e)))
          · exact hno ((k5 _).2 (.inr (.inr (.inl e))))
          · rcases (hn2 b e).2.2 with h1 | h1
            · exact hno h1
            · omega
          · exact hno ((k5 _).2 (.inr (.inr (.inr (.inr e)))))
    clear hr
    by_cases hbr : (pre.length : Int) + 1 = nn
    · have HT : Hid (pre ++ [x] = es.take nn.toNat) := by
        show pre ++ [x] = _
        have := List.prefix_iff_eq_take.1 hpre
        rw [this]
        congr 1
        simp; omega
      have z1 : ((pre.length + 1 : Nat) : Int) = nn := by push_cast; omega
      clear hpre hpl hpn
      gi_wp2_with (gi_at_builtin; refine wpListIn_append_run hr' rfl rfl rfl rfl rfl ?_)
      obtain ⟨f1, O2, f2, f3, f4⟩ := HFIN.out
      rw [hs5, HT.out] at f3
      exact ⟨f1, O2, f2, fun B b1 b2 => LI.stays _ _ B O2 f3 (by simpa using b1) b2, fun b o hb n1 n2 n3 n4 n5 => f4 b o hb fun ho => by
        rcases (k5 b).1 ho with e | e | e | e | e
        · exact n1 e
        · exact n2 e
        · exact n3 e
        · exact n4 e
        · exact e.2.2 (n5 e.1 e.2.1)⟩
    · have z1 : ¬ ((pre.length + 1 : Nat) : Int) = nn := by push_cast; omega
      have z2 : ((pre ++ [x]).length : Int) < nn := by simp only [List.length_append, List.length_cons, List.length_nil]; omega
      have Z2 := Lib.hid z2
      clear z2
      gi_wp2_with (gi_at_builtin; refine wpListIn_append_run hr' rfl rfl rfl rfl rfl ?_)
      obtain ⟨f1, O2, f2, f3, f4⟩ := HFIN.out
      rw [hs5] at f3
      exact ⟨f1, O2, f2, ⟨f3, Z2.out⟩, fun b o hb n1 n2 n3 n4 n5 => f4 b o hb fun ho => by
        rcases (k5 b).1 ho with e | e | e | e | e
        · exact n1 e
        · exact n2 e
        · exact n3 e
        · exact n4 e
        · exact e.2.2 (n5 e.1 e.2.1)⟩
  case done =>
    rintro dm W F1 O1 rfl ht hm ⟨hli, hlt⟩ hdf hnd
    have htk : es.take nn.toNat = es := List.take_of_length_le (by omega)
    have HTK := Lib.hid htk
    rw [← htk] at hli
    clear htk hlt
    obtain ⟨T, HLT⟩ : ∃ T, Hid (es.take nn.toNat = T) := ⟨_, Lib.hid rfl⟩
    rw [HLT.out] at hli
    obtain ⟨v, k1, k2, k3, k4, k5, k6, k7⟩ := hli
    obtain ⟨ao, co, hv, hrow, hown⟩ := k4.parts
    generalize hlv : T.length = lv at hv
    subst hv
    have hN1 : N + 4 * (pgs.length : Int) ≤ N + 4 * (pgs.length : Int) := Int.le_refl _
    have c1 : W.cell? ⟨w.heap.size + 1, 0, none⟩ = some (.slice ao lv co) := by rw [cell_of k1]; rfl
    have f1 : W.frozen? ⟨w.heap.size + 1, 0, none⟩ = false := frozen_of k1 0
    obtain ⟨W1, hW1⟩ : ∃ W1, W.setCell ⟨w.heap.size + 1, 0, none⟩ (.slice ao lv co) = W1 := ⟨_, rfl⟩
    have hu1 : Upd (fun b => b = w.heap.size + 1) W W1 := by rw [← hW1]; exact (Upd.refl (fun b => b = w.heap.size + 1) W).setCell ⟨w.heap.size + 1, 0, none⟩ (fun _ => rfl) _
    have k1' : W1.heap[w.heap.size + 1]? = some (.cells #[.slice ao lv co] 31 (0, 0)) := by rw [← hW1, heap_setCell_same k1 0 _]; rfl
    have k3' : W1.heap[w.heap.size + 2]? = some (.cells #[.int .i64 0] 26 (0, 0)) := (hu1.block _ (lt_of k3) (by omega)).trans k3
    have c3 : W1.cell? ⟨w.heap.size + 2, 0, none⟩ = some (.int .i64 0) := by rw [cell_of k3']; rfl
    have f3 : W1.frozen? ⟨w.heap.size + 2, 0, none⟩ = false := frozen_of k3' 0
    obtain ⟨W2, hW2⟩ : ∃ W2, W1.setCell ⟨w.heap.size + 2, 0, none⟩ (.int .i64 0) = W2 := ⟨_, rfl⟩
    have hu2 : Upd (fun b => b = w.heap.size + 2) W1 W2 := by rw [← hW2]; exact (Upd.refl (fun b => b = w.heap.size + 2) W1).setCell ⟨w.heap.size + 2, 0, none⟩ (fun _ => rfl) _
    have hs1 : W1.heap.size = W.heap.size := by rw [← hW1]; simp
    have hs2 : W2.heap.size = W.heap.size := by rw [← hW2]; simp [hs1]
    have hdl := lt_of hdf
    have hdf2 : W2.heap[w.heap.size + 5]? = some (.deferred (some [])) := by
      rw [← hs5]
      exact (hu2.block _ (by omega) (by omega)).trans ((hu1.block _ hdl (by omega)).trans hdf)
    obtain ⟨W4, hW4⟩ : ∃ W4, W2.putObj (w.heap.size + 5) (.deferred none) = W4 := ⟨_, rfl⟩
    have hu4 : Upd (fun b => b = w.heap.size + 5) W2 W4 := by rw [← hW4]; exact upd_putObj _ _ _
    have j1 : W4.heap[w.heap.size + 1]? = some (.cells #[.slice ao lv co] 31 (0, 0)) := (hu4.block _ (by have := lt_of k1; omega) (by omega)).trans ((hu2.block _ (lt_of k1') (by omega)).trans k1')
    have j2 : W2.heap[w.heap.size + 2]? = some (.cells #[.int .i64 0] 26 (0, 0)) := by rw [← hW2, heap_setCell_same k3' 0 _]; rfl
    have j3 : W4.heap[w.heap.size + 2]? = some (.cells #[.int .i64 0] 26 (0, 0)) := (hu4.block _ (lt_of j2) (by omega)).trans j2
    have hU : Upd (fun b => b = w.heap.size + 1 ∨ b = w.heap.size + 2 ∨ b = w.heap.size + 5) W W4 := ((hu1.mono fun b _ e => .inl e).then (hu2.mono fun b _ e => .inr (.inl e)) fun _ _ e => e).then (hu4.mono fun b _ e => .inr (.inr e)) fun _ _ e => e
    have HFIN : Hid (TRun w0 w W4 s dk F F1 n V D (N + 4 * (pgs.length : Int)) t root S ∧ Row W4 F1 w.heap.size (.slice ao lv co) T) := by
      have hTI : TIn w0 W4 s dk F1 n V D (N + 4 * (pgs.length : Int)) t root S := by
        refine ⟨(ht.sin.mono hN1), ht.lt, ht.at_, ht.shows⟩ |> fun q : TIn w0 W s dk F1 n V D (N + 4 * (pgs.length : Int)) t root S => q.turnG hU ?_
        rintro b (rfl | rfl | rfl)
        · exact ⟨by omega, hm.out _ ((k5 _).2 (.inl rfl)), by omega, by omega⟩
        · exact ⟨by omega, hm.out _ ((k5 _).2 (.inr (.inr (.inl rfl)))), by omega, by omega⟩
        · rw [← hs5]
          exact ⟨by omega, hnd, by omega, by omega⟩
      have hbl : ∀ b, b < w.heap.size → ¬ F b → W4.heap[b]? = w.heap[b]? := fun b h1 h2 => by
        by_cases h3 : b = t
        · rw [h3, hTI.at_.obj, h.at_.obj]
        · refine (hU.block b (by omega) ?_).trans (k7 b h1 h2 h3)
          rintro (e | e | e) <;> omega
      refine ⟨⟨hTI, hTI.sin, ?_, fun b hb => ?_, hTI.lt⟩, ⟨?_, fun b hb => hm.out b ((k5 b).2 (.inr (.inr (.inr (.inl hb)))))⟩⟩
      · have q1 := hTI.sin.below
        have q2 := h.sin.below
        exact ⟨q1.os.trans q2.os.symm, q1.tape.trans q2.tape.symm, q1.output.trans q2.output.symm, by have := hU.size; omega, hbl⟩
      · by_cases h1 : b < w.heap.size
        · left
          by_cases h2 : F b
          · exact h2
          · exfalso
            by_cases h3 : b = t
            · exact hTI.at_.out (h3 ▸ hb)
            · exact hm.out b ((k5 b).2 (.inr (.inr (.inr (.inr ⟨h1, h2, h3⟩))))) hb
        · exact .inr (by omega)
      · refine (k4.keep fun b hb => hU.block b (k4.lt b hb).2 ?_).base (by omega)
        have h1 := k4.lt b hb
        rintro (e | e | e)
        · omega
        · omega
        · have := hm.loop b ((k5 b).2 (.inr (.inr (.inr (.inl hb)))))
          omega
    have e1 : W4.cell? ⟨w.heap.size + 1, 0, none⟩ = some (.slice ao lv co) := by rw [cell_of j1]; rfl
    have e2 : W4.cell? ⟨w.heap.size + 1 + 1, 0, none⟩ = some (.int .i64 0) := by rw [cell_of j3]; rfl
    have HD : Hid (W2.heap[w'.heap.size]? = some (.deferred (some []))) := by rw [hs5]; exact hdf2
    have HW4 : Hid (W2.putObj w'.heap.size (.deferred none) = W4) := by rw [hs5]; exact hW4
    subst hW1
    have c3' : (W.setCell ⟨w.heap.size + 1, 0, none⟩ (.slice ao lv co)).cell? ⟨w.heap.size + 1 + 1, 0, none⟩ = some (.int .i64 0) := c3
    have f3' : (W.setCell ⟨w.heap.size + 1, 0, none⟩ (.slice ao lv co)).frozen? ⟨w.heap.size + 1 + 1, 0, none⟩ = false := f3
    have HW2 : Hid ((W.setCell ⟨w.heap.size + 1, 0, none⟩ (.slice ao lv co)).setCell ⟨w.heap.size + 1 + 1, 0, none⟩ (.int .i64 0) = W2) := hW2
    clear hW4 hdf2 k1' k3' c3 f3 hu1 hu2 hu4 hU j1 j2 j3 hs1 hs2
    clear hW2
    gi_wp2
    rw [HW2.out]
    refine ⟨by simp, .inl ⟨_, _, rfl, run_takeDeferred HD.out, ?_⟩⟩
    rw [HW4.out]
    refine ⟨by simp, .inr ⟨by simp [Fence.wide], _, _, 27, #[.pointer (some ⟨w.heap.size + 1 + 1, 0, none⟩)], rfl, by simp [invoke, go_sem, ens], fun _ _ => trivial, ?_⟩⟩
    refine (settle_idleIn ⟨w.heap.size + 1 + 1, 0, none⟩ _ W4).mono ?_
    rintro e u' w5 ⟨rfl, rfl, rfl⟩
    refine ⟨by simp [settle], .inr ⟨by simp [Fence.wide], _, _, 36, #[.pointer (some ⟨w.heap.size + 1 + 1, 0, none⟩), .pointer (some ⟨w.heap.size + 1, 0, none⟩)], rfl, by simp [invoke, go_sem, el], fun _ _ => trivial, ?_⟩⟩
    refine (list1_idleIn (w.heap.size + 1 + 1) (w.heap.size + 1) _ _ _ e2).mono ?_
    rintro e u' w6 ⟨rfl, rfl, rfl⟩
    obtain ⟨g1, g2⟩ := HFIN.out
    rw [← HLT.out] at g2
    simp [LeavesInM, LeavesIn, settle, results, Tryz.results13, go_sem, e1, e2]
    exact ⟨F1, g1, g2⟩
  case exit => 
    rintro dm W F1 N1 O1 rfl hN1 ht hm hli hdf hnd
    obtain ⟨T, HLT⟩ : ∃ T, Hid (es.take nn.toNat = T) := ⟨_, Lib.hid rfl⟩
    rw [HLT.out] at hli
    obtain ⟨v, k1, k2, k3, k4, k5, k6, k7⟩ := hli
    obtain ⟨ao, co, hv, hrow, hown⟩ := k4.parts
    generalize hlv : T.length = lv at hv
    subst hv
    simp only [Exit.inBlock, if_true]
    have c1 : W.cell? ⟨w.heap.size + 1, 0, none⟩ = some (.slice ao lv co) := by rw [cell_of k1]; rfl
    have f1 : W.frozen? ⟨w.heap.size + 1, 0, none⟩ = false := frozen_of k1 0
    obtain ⟨W1, hW1⟩ : ∃ W1, W.setCell ⟨w.heap.size + 1, 0, none⟩ (.slice ao lv co) = W1 := ⟨_, rfl⟩
    have hu1 : Upd (fun b => b = w.heap.size + 1) W W1 := by rw [← hW1]; exact (Upd.refl (fun b => b = w.heap.size + 1) W).setCell ⟨w.heap.size + 1, 0, none⟩ (fun _ => rfl) _
    have k1' : W1.heap[w.heap.size + 1]? = some (.cells #[.slice ao lv co] 31 (0, 0)) := by rw [← hW1, heap_setCell_same k1 0 _]; rfl
    have k3' : W1.heap[w.heap.size + 2]? = some (.cells #[.int .i64 0] 26 (0, 0)) := (hu1.block _ (lt_of k3) (by omega)).trans k3
    have c3 : W1.cell? ⟨w.heap.size + 2, 0, none⟩ = some (.int .i64 0) := by rw [cell_of k3']; rfl
    have f3 : W1.frozen? ⟨w.heap.size + 2, 0, none⟩ = false := frozen_of k3' 0
    obtain ⟨W2, hW2⟩ : ∃ W2, W1.setCell ⟨w.heap.size + 2, 0, none⟩ (.int .i64 0) = W2 := ⟨_, rfl⟩
    have hu2 : Upd (fun b => b = w.heap.size + 2) W1 W2 := by rw [← hW2]; exact (Upd.refl (fun b => b = w.heap.size + 2) W1).setCell ⟨w.heap.size + 2, 0, none⟩ (fun _ => rfl) _
    have hs1 : W1.heap.size = W.heap.size := by rw [← hW1]; simp
    have hs2 : W2.heap.size = W.heap.size := by rw [← hW2]; simp [hs1]
    have hdl := lt_of hdf
    have hdf2 : W2.heap[w.heap.size + 5]? = some (.deferred (some [])) := by
      rw [← hs5]
      exact (hu2.block _ (by omega) (by omega)).trans ((hu1.block _ hdl (by omega)).trans hdf)
    obtain ⟨W4, hW4⟩ : ∃ W4, W2.putObj (w.heap.size + 5) (.deferred none) = W4 := ⟨_, rfl⟩
    have hu4 : Upd (fun b => b = w.heap.size + 5) W2 W4 := by rw [← hW4]; exact upd_putObj _ _ _
    have j1 : W4.heap[w.heap.size + 1]? = some (.cells #[.slice ao lv co] 31 (0, 0)) := (hu4.block _ (by have := lt_of k1; omega) (by omega)).trans ((hu2.block _ (lt_of k1') (by omega)).trans k1')
    have j2 : W2.heap[w.heap.size + 2]? = some (.cells #[.int .i64 0] 26 (0, 0)) := by rw [← hW2, heap_setCell_same k3' 0 _]; rfl
    have j3 : W4.heap[w.heap.size + 2]? = some (.cells #[.int .i64 0] 26 (0, 0)) := (hu4.block _ (lt_of j2) (by omega)).trans j2
    have hU : Upd (fun b => b = w.heap.size + 1 ∨ b = w.heap.size + 2 ∨ b = w.heap.size + 5) W W4 := ((hu1.mono fun b _ e => .inl e).then (hu2.mono fun b _ e => .inr (.inl e)) fun _ _ e => e).then (hu4.mono fun b _ e => .inr (.inr e)) fun _ _ e => e
    have HFIN : Hid (TRun w0 w W4 s dk F F1 n V D (N + 4 * (pgs.length : Int)) t root S ∧ Row W4 F1 w.heap.size (.slice ao lv co) T) := by
      have hTI : TIn w0 W4 s dk F1 n V D (N + 4 * (pgs.length : Int)) t root S := by
        refine ⟨(ht.sin.mono hN1), ht.lt, ht.at_, ht.shows⟩ |> fun q : TIn w0 W s dk F1 n V D (N + 4 * (pgs.length : Int)) t root S => q.turnG hU ?_
        rintro b (rfl | rfl | rfl)
        · exact ⟨by omega, hm.out _ ((k5 _).2 (.inl rfl)), by omega, by omega⟩
        · exact ⟨by omega, hm.out _ ((k5 _).2 (.inr (.inr (.inl rfl)))), by omega, by omega⟩
        · rw [← hs5]
          exact ⟨by omega, hnd, by omega, by omega⟩
      have hbl : ∀ b, b < w.heap.size → ¬ F b → W4.heap[b]? = w.heap[b]? := fun b h1 h2 => by
        by_cases h3 : b = t
        · rw [h3, hTI.at_.obj, h.at_.obj]
        · refine (hU.block b (by omega) ?_).trans (k7 b h1 h2 h3)
          rintro (e | e | e) <;> omega
      refine ⟨⟨hTI, hTI.sin, ?_, fun b hb => ?_, hTI.lt⟩, ⟨?_, fun b hb => hm.out b ((k5 b).2 (.inr (.inr (.inr (.inl hb)))))⟩⟩
      · have q1 := hTI.sin.below
        have q2 := h.sin.below
        exact ⟨q1.os.trans q2.os.symm, q1.tape.trans q2.tape.symm, q1.output.trans q2.output.symm, by have := hU.size; omega, hbl⟩
      · by_cases h1 : b < w.heap.size
        · left
          by_cases h2 : F b
          · exact h2
          · exfalso
            by_cases h3 : b = t
            · exact hTI.at_.out (h3 ▸ hb)
            · exact hm.out b ((k5 b).2 (.inr (.inr (.inr (.inr ⟨h1, h2, h3⟩))))) hb
        · exact .inr (by omega)
      · refine (k4.keep fun b hb => hU.block b (k4.lt b hb).2 ?_).base (by omega)
        have h1 := k4.lt b hb
        rintro (e | e | e)
        · omega
        · omega
        · have := hm.loop b ((k5 b).2 (.inr (.inr (.inr (.inl hb)))))
          omega
    have e1 : W4.cell? ⟨w.heap.size + 1, 0, none⟩ = some (.slice ao lv co) := by rw [cell_of j1]; rfl
    have e2 : W4.cell? ⟨w.heap.size + 1 + 1, 0, none⟩ = some (.int .i64 0) := by rw [cell_of j3]; rfl
    have HD : Hid (W2.heap[w'.heap.size]? = some (.deferred (some []))) := by rw [hs5]; exact hdf2
    have HW4 : Hid (W2.putObj w'.heap.size (.deferred none) = W4) := by rw [hs5]; exact hW4
    subst hW1
    have c3' : (W.setCell ⟨w.heap.size + 1, 0, none⟩ (.slice ao lv co)).cell? ⟨w.heap.size + 1 + 1, 0, none⟩ = some (.int .i64 0) := c3
    have f3' : (W.setCell ⟨w.heap.size + 1, 0, none⟩ (.slice ao lv co)).frozen? ⟨w.heap.size + 1 + 1, 0, none⟩ = false := f3
    have HW2 : Hid ((W.setCell ⟨w.heap.size + 1, 0, none⟩ (.slice ao lv co)).setCell ⟨w.heap.size + 1 + 1, 0, none⟩ (.int .i64 0) = W2) := hW2
    clear hW4 hdf2 k1' k3' c3 f3 hu1 hu2 hu4 hU j1 j2 j3 hs1 hs2
    clear hW2
    gi_wp2
    rw [HW2.out]
    refine ⟨by simp, .inl ⟨_, _, rfl, run_takeDeferred HD.out, ?_⟩⟩
    rw [HW4.out]
    refine ⟨by simp, .inr ⟨by simp [Fence.wide], _, _, 27, #[.pointer (some ⟨w.heap.size + 1 + 1, 0, none⟩)], rfl, by simp [invoke, go_sem, ens], fun _ _ => trivial, ?_⟩⟩
    refine (settle_idleIn ⟨w.heap.size + 1 + 1, 0, none⟩ _ W4).mono ?_
    rintro e u' w5 ⟨rfl, rfl, rfl⟩
    refine ⟨by simp [settle], .inr ⟨by simp [Fence.wide], _, _, 36, #[.pointer (some ⟨w.heap.size + 1 + 1, 0, none⟩), .pointer (some ⟨w.heap.size + 1, 0, none⟩)], rfl, by simp [invoke, go_sem, el], fun _ _ => trivial, ?_⟩⟩
    refine (list1_idleIn (w.heap.size + 1 + 1) (w.heap.size + 1) _ _ _ e2).mono ?_
    rintro e u' w6 ⟨rfl, rfl, rfl⟩
    obtain ⟨g1, g2⟩ := HFIN.out
    rw [← HLT.out] at g2
    simp [LeavesInM, LeavesIn, settle, results, Tryz.results13, go_sem, e1, e2]
    exact ⟨F1, g1, g2⟩
theorem tlist_leaf (h : TIn w0 w s dk F n V D N t root S) (l : List Ent) (hld : loadM S root = some (1, l)) (hne : 0 < l.length) (from_ : ByteArray) (nn : Int) (hnn : (l.length : Int) < nn) (hnn2 : nn < 1000000000) (hN : N < 100000000) :
    Calls Tryz.prog 13 #[.pointer (some ⟨t, 0, none⟩), .string from_, .int .i64 nn] w fun e w' => ∃ F' v, e = .returned (.tuple #[v, .int .i64 0]) ∧ TIn w0 w' s dk F' n V D (N + 4) t root S ∧ EOwn w' w.heap.size v (l.drop (lIx l from_)) ∧ (∀ b, v.ownBlock = some b → ¬ F' b) := by
  have hw : walkM from_ 66 S root = some (l.drop (lIx l from_), [root]) := by
    rw [walkM, hld]
    rfl
  have hle : (l.drop (lIx l from_)).length ≤ l.length := by simp
  have hfl := (loadM_ok h.shows hld).1.len
  refine (tlist_any h from_ _ _ hw nn (by omega) (by omega) (by simp only [List.length_singleton]; omega)).mono ?_
  rintro e w' ⟨F', v, he, hr, hrow⟩
  rw [List.take_of_length_le (by omega)] at hrow
  refine ⟨F', v, he, ?_, hrow.own, hrow.out⟩
  have := hr.tin
  simpa using this
end
end
end Go.Proofs.YtmgcaohpbaiiaaaGreatDoor
