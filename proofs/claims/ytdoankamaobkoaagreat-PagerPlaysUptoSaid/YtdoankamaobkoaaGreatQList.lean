/- The reference's list of held pages: out, use, hold. -/
import Derived.Test.YtdoankamaobkoaaGreatQMem
import Derived.Deep.RegionLaw
set_option linter.unusedSimpArgs false
set_option linter.unusedVariables false
namespace Go.Proofs.YtdoankamaobkoaaGreat
open Go.RowKit Go.Maps Go.Shelf

/-- an append whose run is known, as a step of a region that draws its order -/
theorem step_append_run {P : Program} {w w' : World} {v v' x : Value} {ops : Array Oper} {o : Oper} {a : Act} {K : Act → World → Prop} {Q : Exit → Act → World → Prop} {E : Prop} {s y : Operand} {t ty : TypeId} (hr : (Builtin.append_ #[t, t] ty #[v, x]).run P w = .ok v' w') (hgd : o.guard = none) (hty : o.type = ty)
    (ho : o.op = .call { callee := .builtin .append, args := #[s, y], argTypes := #[t, t] }) (hs : a.eval s = v) (hy : a.eval y = x)
    (h : K (a.put o.dst v') w') : if Region.wanted o (yielded ops a.tmps) = true then Oper.wp P o a w K Q else E := by
  have hw : Region.wanted o (yielded ops a.tmps) = true := by simp [Region.wanted, hgd]
  rw [if_pos hw]
  subst hty
  unfold Oper.wp execOp
  simp only [ho, resolve, invoke, builtin, Sem.run_bind, Sem.run_pure, Result.andThen_ok, List.map_toArray, List.map_cons, List.map_nil, hs, hy, hr]
  exact h
theorem heldCells_take (L : List (Int × Pg)) (k : Nat) : (heldCells L).take (k * 3) = heldCells (L.take k) := by
  induction k generalizing L with
  | zero => simp [heldCells]
  | succ k ih =>
    cases L with
    | nil => simp [heldCells]
    | cons q L =>
      have e : heldCells (q :: L) = .int .i64 q.1 :: .int .i64 q.2.pins :: .string q.2.data :: heldCells L := by simp [heldCells]
      rw [e, show (k + 1) * 3 = k * 3 + 1 + 1 + 1 by omega, List.take_succ_cons, List.take_succ_cons, List.take_succ_cons, ih L, List.take_succ_cons]
      simp [heldCells]
theorem heldCells_drop (L : List (Int × Pg)) (k : Nat) : (heldCells L).drop (k * 3) = heldCells (L.drop k) := by
  induction k generalizing L with
  | zero => simp
  | succ k ih =>
    cases L with
    | nil => simp [heldCells]
    | cons q L =>
      have e : heldCells (q :: L) = .int .i64 q.1 :: .int .i64 q.2.pins :: .string q.2.data :: heldCells L := by simp [heldCells]
      rw [e, show (k + 1) * 3 = k * 3 + 1 + 1 + 1 by omega, List.drop_succ_cons, List.drop_succ_cons, List.drop_succ_cons, ih L, List.drop_succ_cons]
theorem add_none (g o k : Nat) : Addr.add ⟨g, o, none⟩ k = ⟨g, o + k, none⟩ := by unfold Addr.add; split <;> simp_all
section
variable {w w' : World} {r q : Nat} {lv cv bv lgv : Value} {S : Pgr} {L L' : List (Int × Pg)} {G : Nat → Prop}
/-- another list -/
theorem RMem.relist {lv' : Value} (h : RMem w r q lv cv bv lgv S L) (hk : ∀ b, b = r ∨ b = q ∨ cv.ownBlock = some b ∨ bv.ownBlock = some b ∨ lgv.ownBlock = some b → w'.heap[b]? = w.heap[b]?) (hl : w'.ownsRow 0 95 3 lv' L'.length (heldCells L')) (hlr : lv'.ownBlock ≠ some r) :
    RMem (w'.setCell ⟨r, 2, none⟩ lv') r q lv' cv bv lgv S L' := by
  have hr' := (hk r (.inl rfl)).trans h.r
  have hset := heap_setCell_same hr' 2 lv'
  have hne : ∀ {b : Nat} {cs : Array Value} {T : TypeId} {f : Nat × Nat}, w.heap[b]? = some (.cells cs T f) → T ≠ 55 → b ≠ r := fun hb hT e => by
    subst e
    rw [h.r] at hb
    simp at hb
    exact hT hb.2.1.symm
  have hrow : ∀ {e : TypeId} {size n : Nat} {v : Value} {xs : List Value}, w.ownsRow 0 e size v n xs → e ≠ 55 → v.ownBlock ≠ some r := fun ho hT hv => by
    obtain ⟨cs, hcs⟩ := ownsRow_type ho hv
    exact hne hcs hT rfl
  refine ⟨by rw [hset]; simp, ?_, ownsRow_setCell_other hl (by exact hlr) _, ?_, ?_, ?_, h.ne⟩
  · rw [Below.heap_setCell _ _ _ _ (by exact hne h.q (by decide))]
    exact (hk q (.inr (.inl rfl))).trans h.q
  · exact ownsRow_setCell_other (ownsRow_congr h.chg fun b hb => hk b (.inr (.inr (.inl hb)))) (by exact hrow h.chg (by decide)) _
  · exact ownsRow_setCell_other (ownsRow_congr h.blk fun b hb => hk b (.inr (.inr (.inr (.inl hb))))) (by exact hrow h.blk (by decide)) _
  · exact ownsRow_setCell_other (ownsRow_congr h.log fun b hb => hk b (.inr (.inr (.inr (.inr hb))))) (by exact hrow h.log (by decide)) _
set_option maxHeartbeats 2000000 in
set_option maxRecDepth 100000 in
theorem out_any (h : RAt w r q G S L) (j : Nat) (hj : j < L.length) (hl : L.length ≤ 4096) :
    Calls Tryz.prog 76 #[.pointer (some ⟨r, 0, none⟩), .int .i64 j] w fun e w' => e = .returned (.tuple #[]) ∧ RStp w w' r q G S (L.eraseIdx j) := by
  obtain ⟨lv, cv, bv, lgv, hM, hG⟩ := h
  obtain ⟨g, cap, rfl, -⟩ := hM.listAt hj
  have c2 := cell_of hM.r 2
  have f2 := frozen_of hM.r 2
  simp at c2
  have hcc : L.length ≤ cap ∧ cap ≤ maxLen := by
    rcases hM.list.2 with ⟨h, _⟩ | ⟨g', cap', cur, he, _, _, h1, h2, _⟩
    · cases h
    · simp at he; obtain ⟨rfl, rfl⟩ := he; exact ⟨h1, h2⟩
  have hcap := hcc.1
  have hcap2 : cap ≤ 9223372036854775807 := by have := hcc.2; unfold maxLen at this; omega
  have hcl := heldCells_len L
  -- the first append
  obtain ⟨a1, co1, w1, hr1, ho1, hg1, hb1⟩ := many_append 95 52 _ 3 32 info_held Tryz.underlying52 rfl (by omega) (by omega) w w.heap.size (.slice none 0 0) 0 [] (World.ownsRow_nil _ _ _ _) ⟨g, 0, none⟩ j cap (heldCells (L.take j)) (by rw [heldCells_len, List.length_take]; omega)
    (fun k u hu => by
      rw [add_none, Nat.zero_add]
      rw [← heldCells_take] at hu
      have hk := (List.getElem?_eq_some_iff.1 hu).1
      rw [List.length_take] at hk
      rw [List.getElem?_take_of_lt (by omega)] at hu
      rw [hM.list.cellAt k (by omega)]; exact hu)
    (heldCells_one _) (by omega) (Nat.le_refl _)
  rw [Nat.zero_add, List.nil_append] at ho1
  rw [Nat.zero_add] at hr1 hb1
  have hB1 : Below w.heap.size w w1 := grown_nil_below hg1 rfl
  -- the second
  obtain ⟨src, hsrc, hcells⟩ : ∃ src : Addr, (if cap = j + 1 then some (⟨g, 0, none⟩ : Addr) else some ⟨g, (j + 1) * 3, none⟩) = some src ∧ ∀ k u, (heldCells (L.drop (j + 1)))[k]? = some u → w1.cell? (src.add k) = some u := by
    by_cases hcj : cap = j + 1
    · refine ⟨⟨g, 0, none⟩, by rw [if_pos hcj], fun k u hu => ?_⟩
      rw [List.drop_of_length_le (by omega)] at hu
      simp [heldCells] at hu
    · refine ⟨⟨g, (j + 1) * 3, none⟩, by rw [if_neg hcj], fun k u hu => ?_⟩
      rw [add_none]
      rw [← heldCells_drop, List.getElem?_drop] at hu
      have hk := (List.getElem?_eq_some_iff.1 hu).1
      have hgl : g < w.heap.size := (hM.list.lt g rfl).2
      refine (hB1.cell (p := ⟨g, (j + 1) * 3 + k, none⟩) hgl).trans ?_
      rw [hM.list.cellAt _ (by omega)]; exact hu
  obtain ⟨a2, co2, w2, hr2, ho2, hg2, hb2⟩ := many_append 95 52 _ 3 32 info_held Tryz.underlying52 rfl (by omega) (by omega) w1 w.heap.size (.slice a1 j co1) j (heldCells (L.take j)) ho1 src (L.length - (j + 1)) (cap - (j + 1)) (heldCells (L.drop (j + 1))) (by rw [heldCells_len, List.length_drop])
    hcells (heldCells_one _) (by omega) hB1.size
  rw [← hsrc] at hr2
  rw [← heldCells_append, ← List.eraseIdx_eq_take_drop_succ, show j + (L.length - (j + 1)) = (L.eraseIdx j).length by rw [List.length_eraseIdx_of_lt hj]; omega] at ho2
  rw [show j + (L.length - (j + 1)) = (L.eraseIdx j).length by rw [List.length_eraseIdx_of_lt hj]; omega] at hr2 hb2
  have hB2 : Below w.heap.size w w2 := hB1.grown hg2 hB1.size (fun k hk => (ho1.lt k hk).1)
  have hnew : ∀ b, (Value.slice a2 (L.eraseIdx j).length co2).ownBlock = some b → w.heap.size ≤ b ∧ b < w2.heap.size := fun b hb => ho2.lt b hb
  have hrl := lt_of hM.r
  have hM2 := hM.relist (w' := w2) (L' := L.eraseIdx j) (fun b hb => hB2.block b (by
    rcases hb with hb | hb | hb | hb | hb
    · exact hM.fp_lt (.inl hb)
    · exact hM.fp_lt (.inr (.inl hb))
    · exact hM.fp_lt (.inr (.inr (.inr (.inl hb))))
    · exact hM.fp_lt (.inr (.inr (.inr (.inr (.inl hb)))))
    · exact hM.fp_lt (.inr (.inr (.inr (.inr (.inr hb))))))) (ownsRow_base ho2 (Nat.zero_le _)) (fun e => by have := hnew r e; omega)
  have HST : Hid (RStp w (w2.setCell ⟨r, 2, none⟩ (.slice a2 (L.eraseIdx j).length co2)) r q G S (L.eraseIdx j)) := by
    refine ⟨⟨_, cv, bv, lgv, hM2, fun b hb => ?_⟩, (Upd.below hB2 (F := G) (fun x hx hle => by omega)).setCell _ (fun _ => hG r (.inl rfl)) _⟩
    rcases hb with hb | hb | hb | hb | hb | hb
    · exact .inl (hG b (.inl hb))
    · exact .inl (hG b (.inr (.inl hb)))
    · exact .inr (by simpa using hnew b hb)
    · exact .inl (hG b (.inr (.inr (.inr (.inl hb)))))
    · exact .inl (hG b (.inr (.inr (.inr (.inr (.inl hb))))))
    · exact .inl (hG b (.inr (.inr (.inr (.inr (.inr hb))))))
  have e2 : w2.cell? ⟨r, 2, none⟩ = some (.slice (some ⟨g, 0, none⟩) L.length cap) := (hB2.cell (p := ⟨r, 2, none⟩) hrl).trans c2
  have d2 : w1.cell? ⟨r, 2, none⟩ = some (.slice (some ⟨g, 0, none⟩) L.length cap) := (hB1.cell (p := ⟨r, 2, none⟩) hrl).trans c2
  have g2 : w2.frozen? ⟨r, 2, none⟩ = false := (hB2.frozen (p := ⟨r, 2, none⟩) hrl).trans f2
  clear hM hM2 hnew ho1 ho2 hg1 hg2 hb1 hb2 hB1 hB2 hG hcl hcc hcells hsrc
  obtain ⟨m', HM'⟩ : ∃ m', Hid ((L.eraseIdx j).length = m') := ⟨_, Lib.hid rfl⟩
  rw [HM'.out] at hr2 HST
  obtain ⟨L', HL'⟩ : ∃ L', Hid (L.eraseIdx j = L') := ⟨_, Lib.hid rfl⟩
  rw [HL'.out] at HST ⊢
  clear HM' HL'
  obtain ⟨m, HM⟩ : ∃ m, Hid (L.length = m) := ⟨_, Lib.hid rfl⟩
  rw [HM.out] at c2 e2 d2 hj hl hcap hr2
  clear HM
  go_enter Tryz.func76, Tryz.ntmps76
  have HR1 := Lib.hid hr1
  have HR2 := Lib.hid hr2
  clear hr1 hr2
  go_upto_region 2 with (at_builtin; refine wpList_append_run HR1.out rfl rfl rfl rfl rfl ?_)
  go_wp2_with (at_builtin; refine wpList_append_run HR2.out rfl rfl rfl rfl rfl ?_)
  all_goals
    go_end0
    exact ⟨rfl, HST.out⟩
theorem RAt.lt (h : RAt w r q G S L) : RAt w r q (fun b => G b ∧ b < w.heap.size) S L := by
  obtain ⟨lv, cv, bv, lgv, hM, hf⟩ := h
  exact ⟨lv, cv, bv, lgv, hM, fun b hb => ⟨hf b hb, hM.fp_lt hb⟩⟩
theorem RStp.monoG {G' : Nat → Prop} (h : RStp w w' r q G S L) (hg : ∀ b, G b → G' b) : RStp w w' r q G' S L :=
  ⟨h.at_.mono fun b hb => hb.imp (hg b) id, h.upd.mono fun b _ hb => hg b hb⟩
/-- one more page at the list's end -/
theorem RMem.push (h : RMem w r q lv cv bv lgv S L) (v : Int × Pg) {W : World} (hB : Below w.heap.size w W) (src : Nat) (h0 : W.cell? ⟨src, 0, none⟩ = some (.int .i64 v.1)) (h1 : W.cell? ⟨src, 1, none⟩ = some (.int .i64 v.2.pins)) (h2 : W.cell? ⟨src, 2, none⟩ = some (.string v.2.data)) (hl : L.length ≤ 4096) :
    ∃ ao co w3, (Builtin.append_ #[52, 52] 52 #[lv, .slice (some ⟨src, 0, none⟩) 1 1]).run Tryz.prog W = .ok (.slice ao (L.length + 1) co) w3 ∧
      w3.cell? ⟨r, 2, none⟩ = some lv ∧ w3.frozen? ⟨r, 2, none⟩ = false ∧ (∀ b, b = r ∨ b = q ∨ cv.ownBlock = some b ∨ bv.ownBlock = some b ∨ lgv.ownBlock = some b → w3.heap[b]? = w.heap[b]?) ∧
      RMem (w3.setCell ⟨r, 2, none⟩ (.slice ao (L.length + 1) co)) r q (.slice ao (L.length + 1) co) cv bv lgv S (L ++ [v]) ∧ Upd (rfp r q lv cv bv lgv) w (w3.setCell ⟨r, 2, none⟩ (.slice ao (L.length + 1) co)) ∧
      (∀ b, rfp r q (.slice ao (L.length + 1) co) cv bv lgv b → rfp r q lv cv bv lgv b ∨ (w.heap.size ≤ b ∧ b < w3.heap.size)) := by
  have hMW := h.keep (w' := W) fun b hb => hB.block b (h.fp_lt hb)
  obtain ⟨ao, co, w3, hr, ho, hg, hb⟩ := many_append 95 52 _ 3 32 info_held Tryz.underlying52 rfl (by omega) (by omega) W 0 lv L.length (heldCells L) hMW.list ⟨src, 0, none⟩ 1 1 (heldCells [v]) (by simp [heldCells])
    (fun k u hu => by
      rw [add_none, Nat.zero_add]
      simp only [heldCells, List.flatMap_cons, List.flatMap_nil, List.append_nil] at hu
      match k, hu with
      | 0, hu => simp at hu; subst hu; exact h0
      | 1, hu => simp at hu; subst hu; exact h1
      | 2, hu => simp at hu; subst hu; exact h2
      | k + 3, hu => simp at hu)
    (heldCells_one _) (by omega) (Nat.zero_le _)
  have hs := hB.size
  have hty : ∀ {b : Nat} {cs : Array Value} {T : TypeId} {f : Nat × Nat}, w.heap[b]? = some (.cells cs T f) → T ≠ 95 → lv.ownBlock ≠ some b := fun hbk hT e => by
    obtain ⟨cs, hcs⟩ := ownsRow_type h.list e
    rw [hbk] at hcs
    simp at hcs
    exact hT hcs.2.1
  have hk : ∀ b, b = r ∨ b = q ∨ cv.ownBlock = some b ∨ bv.ownBlock = some b ∨ lgv.ownBlock = some b → w3.heap[b]? = w.heap[b]? := fun b hbb => by
    have hlt : b < w.heap.size := by
      rcases hbb with hb | hb | hb | hb | hb
      · exact h.fp_lt (.inl hb)
      · exact h.fp_lt (.inr (.inl hb))
      · exact h.fp_lt (.inr (.inr (.inr (.inl hb))))
      · exact h.fp_lt (.inr (.inr (.inr (.inr (.inl hb)))))
      · exact h.fp_lt (.inr (.inr (.inr (.inr (.inr hb)))))
    refine (hg.block b (by omega) (fun e => ?_)).trans (hB.block b hlt)
    rcases hbb with rfl | rfl | hb | hb | hb
    · exact hty h.r (by decide) e.symm
    · exact hty h.q (by decide) e.symm
    · obtain ⟨cs, hcs⟩ := ownsRow_type h.chg hb; exact hty hcs (by decide) e.symm
    · obtain ⟨cs, hcs⟩ := ownsRow_type h.blk hb; exact hty hcs (by decide) e.symm
    · obtain ⟨cs, hcs⟩ := ownsRow_type h.log hb; exact hty hcs (by decide) e.symm
  have hrl := lt_of h.r
  have hnr : (Value.slice ao (L.length + 1) co).ownBlock ≠ some r := fun e => by
    rcases hb with hb | hb
    · rw [hb] at e; exact hty h.r (by decide) e
    · rw [hb] at e; simp at e; omega
  have hr3 := (hk r (.inl rfl)).trans h.r
  have ho' : w3.ownsRow 0 95 3 (.slice ao (L.length + 1) co) (L ++ [v]).length (heldCells (L ++ [v])) := by
    rw [heldCells_append, List.length_append]; exact ho
  refine ⟨ao, co, w3, hr, by rw [cell_of hr3]; rfl, frozen_of hr3 2, hk, h.relist hk ho' hnr, ?_, fun b hbb => ?_⟩
  · have hu : Upd (rfp r q lv cv bv lgv) w W := Upd.below hB (fun x hx hle => by omega)
    exact (hu.grown hg (fun k hk _ => .inr (.inr (.inl hk)))).setCell _ (fun _ => .inl rfl) _
  · rcases hbb with hx | hx | hx | hx | hx | hx
    · exact .inl (.inl hx)
    · exact .inl (.inr (.inl hx))
    · rcases hb with hb | hb
      · rw [hb] at hx; exact .inl (.inr (.inr (.inl hx)))
      · have h3 := (ho.lt b hx).2
        rw [hb] at hx; simp at hx; exact .inr ⟨by omega, h3⟩
    · exact .inl (.inr (.inr (.inr (.inl hx))))
    · exact .inl (.inr (.inr (.inr (.inr (.inl hx)))))
    · exact .inl (.inr (.inr (.inr (.inr (.inr hx)))))
set_option maxHeartbeats 2000000 in
set_option maxRecDepth 100000 in
theorem quse_any (h : RAt w r q G S L) (j : Nat) (hj : j < L.length) (v : Int × Pg) (e0 : v.1 = L[j].1) (e1 : v.2.pins = L[j].2.pins) (e2 : v.2.data = L[j].2.data) (hl : L.length ≤ 4096) :
    Calls Tryz.prog 73 #[.pointer (some ⟨r, 0, none⟩), .int .i64 j] w fun e w' => e = .returned (.tuple #[]) ∧ RStp w w' r q G S (L.eraseIdx j ++ [v]) := by
  have hlt := h.lt
  have HMG : Hid (∀ w', RStp w w' r q (fun b => G b ∧ b < w.heap.size) S (L.eraseIdx j ++ [v]) → RStp w w' r q G S (L.eraseIdx j ++ [v])) := fun w' hx => hx.monoG fun b hb => hb.1
  obtain ⟨lv, cv, bv, lgv, hM, hG⟩ := hlt
  obtain ⟨g, cap, rfl, l0, l1, l2⟩ := hM.listAt hj
  rw [← e0] at l0
  rw [← e1] at l1
  rw [← e2] at l2
  have c2 := cell_of hM.r 2
  simp at c2
  have hgl : g < w.heap.size := (hM.list.lt g rfl).2
  have HOU := Lib.hid (out_any (h.lt.made ((Below.refl _ w).alloc (Nat.le_refl _) (.cells #[.int .i64 v.1, .int .i64 v.2.pins, .string v.2.data] 95))) j hj hl)
  have HNB : Hid (∀ b, (fun b => G b ∧ b < w.heap.size) b → b < w.heap.size) := fun b hb => hb.2
  have hel : (L.eraseIdx j).length ≤ 4096 := by rw [List.length_eraseIdx_of_lt hj]; omega
  have HSZ : Hid ((w.alloc (.cells #[.int .i64 v.1, .int .i64 v.2.pins, .string v.2.data] 95)).heap.size = w.heap.size + 1) := by show _ = _; simp
  have HBX : Hid ((w.alloc (.cells #[.int .i64 v.1, .int .i64 v.2.pins, .string v.2.data] 95)).heap[w.heap.size]? = some (.cells #[.int .i64 v.1, .int .i64 v.2.pins, .string v.2.data] 95 (0, 0))) := heap_alloc_new' _ _
  have HU0 : Hid (Upd (fun b => G b ∧ b < w.heap.size) w (w.alloc (.cells #[.int .i64 v.1, .int .i64 v.2.pins, .string v.2.data] 95))) := (Upd.refl _ w).alloc _
  clear h hM hG e0 e1 e2
  have HP : Hid (∀ (w2 : World), RStp (w.alloc (.cells #[.int .i64 v.1, .int .i64 v.2.pins, .string v.2.data] 95)) w2 r q (fun b => G b ∧ b < w.heap.size) S (L.eraseIdx j) →
      ∃ lv2 ao co w3, (∀ W, W = w2 ∨ W = w2.drew ∨ (∃ o, W = w2.drew.alloc o) → W.cell? ⟨r, 2, none⟩ = some lv2 ∧ W.cell? ⟨w.heap.size, 0, none⟩ = some (.int .i64 v.1) ∧ W.cell? ⟨w.heap.size, 1, none⟩ = some (.int .i64 v.2.pins) ∧ W.cell? ⟨w.heap.size, 2, none⟩ = some (.string v.2.data)) ∧
        (Builtin.append_ #[52, 52] 52 #[lv2, .slice (some ⟨w2.heap.size, 0, none⟩) 1 1]).run Tryz.prog (w2.drew.alloc (.cells #[.int .i64 v.1, .int .i64 v.2.pins, .string v.2.data] 95)) = .ok (.slice ao ((L.eraseIdx j).length + 1) co) w3 ∧
        w3.cell? ⟨r, 2, none⟩ = some lv2 ∧ w3.frozen? ⟨r, 2, none⟩ = false ∧ RStp w (w3.setCell ⟨r, 2, none⟩ (.slice ao ((L.eraseIdx j).length + 1) co)) r q (fun b => G b ∧ b < w.heap.size) S (L.eraseIdx j ++ [v])) := by
    intro w2 hst
    obtain ⟨lv2, cv2, bv2, lgv2, hM2, hG2⟩ := hst.at_
    have hs2 := hst.upd.size
    have hsz := HSZ.out
    have hbx := (hst.upd.block w.heap.size (by omega) (fun hx => by omega)).trans HBX.out
    have hB : Below w2.heap.size w2 (w2.drew.alloc (.cells #[.int .i64 v.1, .int .i64 v.2.pins, .string v.2.data] 95)) := ((Below.refl _ w2).drew).alloc (Nat.le_refl _) _
    obtain ⟨ao, co, w3, hr, p1, p2, _, hM3, hU3, hF3⟩ := hM2.push v hB w2.heap.size (cell_new w2.drew _ _ 0) (cell_new w2.drew _ _ 1) (cell_new w2.drew _ _ 2) hel
    refine ⟨lv2, ao, co, w3, ?_, hr, p1, p2, ⟨⟨_, cv2, bv2, lgv2, hM3, fun b hb => ?_⟩, ?_⟩⟩
    · intro W hW
      have hWB : Below w2.heap.size w2 W := by
        rcases hW with rfl | rfl | ⟨o, rfl⟩
        · exact Below.refl _ _
        · exact (Below.refl _ w2).drew
        · exact ((Below.refl _ w2).drew).alloc (Nat.le_refl _) _
      have hrl := lt_of hM2.r
      refine ⟨(hWB.cell (p := ⟨r, 2, none⟩) hrl).trans (by rw [cell_of hM2.r]; rfl), ?_, ?_, ?_⟩
      · exact (hWB.cell (p := ⟨w.heap.size, 0, none⟩) (lt_of hbx)).trans (by rw [cell_of hbx]; rfl)
      · exact (hWB.cell (p := ⟨w.heap.size, 1, none⟩) (lt_of hbx)).trans (by rw [cell_of hbx]; rfl)
      · exact (hWB.cell (p := ⟨w.heap.size, 2, none⟩) (lt_of hbx)).trans (by rw [cell_of hbx]; rfl)
    · rcases hF3 b hb with h | h
      · rcases hG2 b h with h | h
        · exact .inl h
        · exact .inr ⟨by omega, by simp; have := hU3.size; simp at this; omega⟩
      · exact .inr ⟨by omega, by simpa using h.2⟩
    · refine (HU0.out.trans (hst.upd.mono fun b _ hb => hb)).then hU3 (fun x hx hf => ?_)
      rcases hG2 x hf with h | h
      · exact h
      · omega
  clear HU0 HNB HBX
  generalize v.1 = va at *
  generalize v.2.pins = vp at *
  generalize v.2.data = vd at *
  go_enter Tryz.func73, Tryz.ntmps73
  go_wp2_with fail
  refine HOU.out.mono ?_
  rintro e w2 ⟨rfl, hst⟩
  obtain ⟨lv2, ao, co, w3, hc, hr, p1, p2, hfin⟩ := HP.out w2 hst
  obtain ⟨d0, d1, d2, d3⟩ := hc w2.drew (.inr (.inl rfl))
  have k0 : ∀ o, (w2.drew.alloc o).cell? ⟨r, 2, none⟩ = some lv2 := fun o => (hc _ (.inr (.inr ⟨o, rfl⟩))).1
  have k1 : ∀ o, (w2.alloc o).drew.cell? ⟨r, 2, none⟩ = some lv2 := fun o => k0 o
  have HFIN := Lib.hid (HMG.out _ hfin)
  have HHR := Lib.hid hr
  clear hst HOU HP hfin hc l0 l1 l2 c2 HMG hr
  go_upto_region 2 with fail
  have hr := HHR.out
  go_region_law (refine step_append_run hr rfl rfl rfl rfl rfl ?_)
  all_goals
    go_end0
    exact ⟨rfl, HFIN.out⟩
set_option maxHeartbeats 2000000 in
set_option maxRecDepth 100000 in
theorem qhold_any (h : RAt w r q G S L) (i : Int) (x : ByteArray) (hl : L.length ≤ 4096) :
    Calls Tryz.prog 75 #[.pointer (some ⟨r, 0, none⟩), .int .i64 i, .string x] w fun e w' => e = .returned (.tuple #[]) ∧ RStp w w' r q G S (rHold S L i x) := by
  have HP : Hid (∀ (w1 : World) (L1 : List (Int × Pg)), RStp w w1 r q (fun b => G b ∧ b < w.heap.size) S L1 → L1.length ≤ 4096 →
      ∃ lv2 ao co w3, w1.cell? ⟨r, 2, none⟩ = some lv2 ∧ (∀ o, (w1.alloc o).cell? ⟨r, 2, none⟩ = some lv2) ∧
        (Builtin.append_ #[52, 52] 52 #[lv2, .slice (some ⟨w1.heap.size, 0, none⟩) 1 1]).run Tryz.prog (w1.alloc (.cells #[.int .i64 i, .int .i64 0, .string x] 95)) = .ok (.slice ao (L1.length + 1) co) w3 ∧
        w3.cell? ⟨r, 2, none⟩ = some lv2 ∧ w3.frozen? ⟨r, 2, none⟩ = false ∧ RStp w (w3.setCell ⟨r, 2, none⟩ (.slice ao (L1.length + 1) co)) r q G S (L1 ++ [(i, ⟨x, 0, S.clock + 1⟩)])) := by
    intro w1 L1 hst hl1
    obtain ⟨lv2, cv2, bv2, lgv2, hM2, hG2⟩ := hst.at_
    have hs2 := hst.upd.size
    have hB : Below w1.heap.size w1 (w1.alloc (.cells #[.int .i64 i, .int .i64 0, .string x] 95)) := (Below.refl _ w1).alloc (Nat.le_refl _) _
    obtain ⟨ao, co, w3, hr, p1, p2, _, hM3, hU3, hF3⟩ := hM2.push (i, ⟨x, 0, S.clock + 1⟩) hB w1.heap.size (cell_new w1 _ _ 0) (cell_new w1 _ _ 1) (cell_new w1 _ _ 2) hl1
    have hrl := lt_of hM2.r
    have hc : w1.cell? ⟨r, 2, none⟩ = some lv2 := by rw [cell_of hM2.r]; rfl
    refine ⟨lv2, ao, co, w3, hc, fun o => (World.cell?_alloc_lt _ _ ⟨r, 2, none⟩ hrl).trans hc, hr, p1, p2, RStp.monoG (G := fun b => G b ∧ b < w.heap.size) ⟨⟨_, cv2, bv2, lgv2, hM3, fun b hb => ?_⟩, ?_⟩ (fun b hb => hb.1)⟩
    · rcases hF3 b hb with h | h
      · rcases hG2 b h with h | h
        · exact .inl h
        · exact .inr ⟨by omega, by simp; have := hU3.size; simp at this; omega⟩
      · exact .inr ⟨by omega, by simpa using h.2⟩
    · refine hst.upd.then hU3 (fun x hx hf => ?_)
      rcases hG2 x hf with h | h
      · exact h
      · omega
  have hlt := h.lt
  have HD : Hid (∀ k, RStp w (w.drewN k) r q (fun b => G b ∧ b < w.heap.size) S L) := fun k => (RStp.refl hlt).made (qdrew_below w k)
  have HFR : Hid (∀ k, Calls Tryz.prog 77 #[.pointer (some ⟨r, 0, none⟩)] (w.drewN k) fun e w' => e = .returned (.int .i64 (ixI (freeIx L))) ∧ w.drewN k = w') := fun k => free_any ((HD.out k).at_) hl
  obtain ⟨lv, cv, bv, lgv, hM, _⟩ := hlt
  have c1 : ∀ k, (w.drewN k).cell? ⟨r, 1, none⟩ = some (.int .i64 S.room) := fun k => cell_of hM.r 1
  have c2 : ∀ k, (w.drewN k).cell? ⟨r, 2, none⟩ = some lv := fun k => cell_of hM.r 2
  obtain ⟨ao, co, rfl⟩ := ownsRow_slice hM.list
  by_cases hf : S.room ≤ (L.length : Int)
  · cases hx : freeIx L with
    | none =>
      have e : rHold S L i x = L := by unfold rHold; rw [if_pos hf, hx]
      rw [hx, show ixI none = -1 from rfl] at HFR
      have HEND : Hid (∀ k, RStp w (w.drewN k) r q G S L) := fun k => (HD.out k).monoG fun b hb => hb.1
      rw [e]
      clear e hM h HP HD hx
      generalize S.room = rm at *
      obtain ⟨m, HM⟩ : ∃ m, Hid (L.length = m) := ⟨_, Lib.hid rfl⟩
      rw [HM.out] at c2 hf
      clear HM
      go_enter Tryz.func75, Tryz.ntmps75
      go_upto_region 0 with fail
      go_quiet (fail)
      go_wp2_with (go_at_call 77; refine (HFR.out _).mono ?_; rintro e w' ⟨rfl, rfl⟩)
      refine bodyPost_ret (results_none rfl _ _ _) rfl ?_
      exact ⟨rfl, HEND.out _⟩
    | some j =>
      have hj : j < L.length := (List.findIdx?_eq_some_iff_getElem.1 hx).1
      have e : rHold S L i x = L.eraseIdx j ++ [(i, ⟨x, 0, S.clock + 1⟩)] := by unfold rHold; rw [if_pos hf, hx]
      rw [hx, show ixI (some j) = (j : Int) from rfl] at HFR
      have HOU : Hid (∀ k, Calls Tryz.prog 76 #[.pointer (some ⟨r, 0, none⟩), .int .i64 (j : Int)] (w.drewN k) fun e w' => e = .returned (.tuple #[]) ∧ RStp w w' r q (fun b => G b ∧ b < w.heap.size) S (L.eraseIdx j)) :=
        fun k => (out_any (HD.out k).at_ j hj hl).mono fun _ _ ⟨a, b⟩ => ⟨a, (HD.out k).trans b⟩
      have HP2 : Hid (∀ w1, RStp w w1 r q (fun b => G b ∧ b < w.heap.size) S (L.eraseIdx j) → _) := fun w1 hst => HP.out w1 (L.eraseIdx j) hst (by rw [List.length_eraseIdx_of_lt hj]; omega)
      rw [e]
      clear e hM h HP HD hx
      generalize S.room = rm at *
      generalize S.clock = ck at *
      obtain ⟨m, HM⟩ : ∃ m, Hid (L.length = m) := ⟨_, Lib.hid rfl⟩
      rw [HM.out] at c2 hf
      clear HM
      go_enter Tryz.func75, Tryz.ntmps75
      go_upto_region 0 with fail
      go_quiet (fail)
      go_wp2_with (go_at_call 77; refine (HFR.out _).mono ?_; rintro e w' ⟨rfl, rfl⟩)
      refine (HOU.out _).mono ?_
      rintro e w1 ⟨rfl, hst⟩
      obtain ⟨lv2, a2, co2, w3, d1, d2, hr, p1, p2, hfin⟩ := HP2.out w1 hst
      have HFIN := Lib.hid hfin
      have HHR := Lib.hid hr
      clear hst hfin hr HP2 HOU HFR c1 c2
      go_wp2_with (at_builtin; refine wpList_append_run HHR.out rfl rfl rfl rfl rfl ?_)
      go_end0
      exact ⟨rfl, HFIN.out⟩
  · have e : rHold S L i x = L ++ [(i, ⟨x, 0, S.clock + 1⟩)] := by unfold rHold; rw [if_neg hf]
    have HP2 : Hid (∀ k, _) := fun k => HP.out (w.drewN k) L (HD.out k) hl
    rw [e]
    clear e hM h HP HD
    generalize S.room = rm at *
    generalize S.clock = ck at *
    obtain ⟨m, HM⟩ : ∃ m, Hid (L.length = m) := ⟨_, Lib.hid rfl⟩
    rw [HM.out] at c2 hf HP2
    have hf' : (m : Int) < rm := by omega
    clear HM
    go_enter Tryz.func75, Tryz.ntmps75
    go_upto_region 0 with fail
    go_quiet (fail)
    obtain ⟨lv2, a2, co2, w3, d1, d2, hr, p1, p2, hfin⟩ := HP2.out nq
    have HFIN := Lib.hid hfin
    have HHR := Lib.hid hr
    clear hfin hr HP2 HFR c2
    go_wp2_with (at_builtin; refine wpList_append_run HHR.out rfl rfl rfl rfl rfl ?_)
    go_end0
    exact ⟨rfl, HFIN.out⟩
end
end Go.Proofs.YtdoankamaobkoaaGreat
