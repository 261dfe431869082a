/- pager.Store, Unpin, Pin · pager.Pin · pager.Dirty and Held: the numbers of the changed pages, rising; of the held ones, by their uses · pager.Held: the held pages' numbers, the one used longest ago first · Zeros, block: texts made as long as a block; a new disk; a new pager · pager.New, and what every statement on the pager asks ahead: wakes · The pager in what a call has made since it began: each method once more, in that word. -/
import Derived.Test.YtmgcaohpbaiiaaaGreatDoorP1
import Derived.StillTailTactics
import Derived.Test.YtmgcaohpbaiiaaaGreatDoorShelf
import Derived.Laws.CopyOwn
import Derived.Carry
namespace Go.Proofs.YtmgcaohpbaiiaaaGreatDoor
/-! Pin -/
section
set_option linter.unusedSimpArgs false
set_option linter.unusedVariables false
open Go.RowKit Go.Maps

theorem del_get_none {α : Type} {k : Int} {l : List (Int × α)} (h : get k l = none) : del k l = l := del_none (get_none h)

set_option maxRecDepth 100000 in
set_option maxHeartbeats 1000000 in
/-- the way on which a page is changed -/
theorem store_yes {w : World} {L : PLoc} {S : Pgr} (h : PagerAt w L S) (hok : S.Ok) (i : Int) (s : ByteArray) (hwf : (Lit.int .i64 i).wf = true) (hm : S.may i = 0) (hs : s.size = 256)
    (hp : ∀ x, get i S.held = some x → x.pins = 0) (hlen : S.changed.length < 4611686018427387904) :
    Calls Tryz.prog 112 #[.pointer (some ⟨L.p, 0, none⟩), .int .i64 i, .string s] w fun e w' =>
      e = .returned (.int .i64 0) ∧ PagerAt w' L { S with held := del i S.held, changed := ins i s S.changed } ∧ Upd (L.fp S) w w' := by
  have hM := pmay_any h i
  have c2 := cell_of h.p 2
  have c3 := cell_of h.p 3
  simp at c2 c3
  have hl2 := h.held.look (k := i) Tryz.underlying159 (zero_page _) hwf
  rw [heldV_eq, mapV_get] at hl2
  rw [hm] at hM
  obtain ⟨w1, hdel, hM1, hT1⟩ := h.held.drop (k := i) Tryz.underlying159 hwf 0
  rw [heldV_eq, ← mapV_del, ← heldV_eq] at hM1
  have H1 := Lib.hid (h.turnHeld hM1 hT1 (fun q hq => (List.mem_filter.1 hq).1))
  have hcell1 := hT1.cell
  obtain ⟨w2, hput, hM2, hT2⟩ := H1.out.changed.put (k := i) Tryz.underlying160 (by rw [changedV_eq, mapV_length]; unfold maxLen; simp only; omega) hwf (.string s)
  rw [changedV_eq, ← mapV_ins (fun _ s => Value.string s), ← changedV_eq] at hM2
  have H2 := Lib.hid (H1.out.turnChanged hM2 hT2)
  have HU := Lib.hid (((Upd.refl (L.fp S) w).turn hT1 (fun _ => .inr (.inr (.inr (.inl rfl))))).turn hT2 (fun _ => .inr (.inr (.inr (.inr (.inl rfl))))))
  have hsz : (s.size == 256) = true := by simpa using hs
  have hsl := Lib.hid hs
  clear hM1 hT1 hM2 hT2 hm hok
  have hsl1 : s.size ≤ 256 := by have := hsl.out; omega
  have hsl2 : 256 ≤ s.size := by have := hsl.out; omega
  cases hx : get i S.held with
  | none =>
    rw [hx] at hl2
    simp at hl2
    clear hx hp h
    go_enter Tryz.func112, Tryz.ntmps112
    go_wp2_with (go_at_call 106; refine hM.mono ?_; rintro e w' ⟨rfl, rfl⟩)
    go_ret
    exact ⟨rfl, H2.out, HU.out⟩
  | some x =>
    rw [hx] at hl2
    simp at hl2
    have hpg := h.page _ (get_mem hx)
    have c1 := cell_of hpg 1
    simp [hp x hx] at c1
    clear hx hp h hpg
    go_enter Tryz.func112, Tryz.ntmps112
    go_wp2_with (go_at_call 106; refine hM.mono ?_; rintro e w' ⟨rfl, rfl⟩)
    go_ret
    exact ⟨rfl, H2.out, HU.out⟩

theorem srt_length {α : Type} : ∀ (l : List (Int × α)) (a b : Int), Srt l → (∀ q ∈ l, a ≤ q.1 ∧ q.1 < b) → a ≤ b → (l.length : Int) ≤ b - a
  | [], a, b, _, _, h => by simp; omega
  | p :: r, a, b, hs, hb, h => by
    obtain ⟨h1, h2⟩ := List.pairwise_cons.1 hs
    have hp := hb p (by simp)
    have := srt_length r (p.1 + 1) b h2 (fun q hq => ⟨by have := h1 q hq; omega, (hb q (by simp [hq])).2⟩) (by omega)
    simp; omega
theorem changed_length {S : Pgr} (h : S.Ok) : S.changed.length ≤ 8193 := by
  have := srt_length S.changed 0 8193 h.srtc (fun q hq => by have := isPage_bd (h.changed q hq).1; omega) (by omega)
  omega

set_option maxRecDepth 100000 in
set_option maxHeartbeats 1000000 in
theorem store_no {w : World} {L : PLoc} {S : Pgr} (h : PagerAt w L S) (i : Int) (s : ByteArray) (hwf : (Lit.int .i64 i).wf = true) (hsz : s.size ≤ 140737488355328) (e : Int)
    (he : (S.may i ≠ 0 ∧ e = S.may i) ∨ (S.may i = 0 ∧ s.size ≠ 256 ∧ e = 3) ∨ (S.may i = 0 ∧ s.size = 256 ∧ (∃ x, get i S.held = some x ∧ 0 < x.pins) ∧ e = 10)) :
    Calls Tryz.prog 112 #[.pointer (some ⟨L.p, 0, none⟩), .int .i64 i, .string s] w fun e' w' => e' = .returned (.int .i64 e) ∧ w = w' := by
  have hM := pmay_any h i
  have c2 := cell_of h.p 2
  simp at c2
  have hl2 := h.held.look (k := i) Tryz.underlying159 (zero_page _) hwf
  rw [heldV_eq, mapV_get] at hl2
  rcases he with ⟨hm, rfl⟩ | ⟨hm, hs, rfl⟩ | ⟨hm, hs, ⟨x, hx, hp⟩, rfl⟩
  · have hm' : (S.may i != 0) = true := by simpa using hm
    clear hm hl2 h
    generalize S.may i = m at *
    go_enter Tryz.func112, Tryz.ntmps112
    go_wp2_with (go_at_call 106; refine hM.mono ?_; rintro e w' ⟨rfl, rfl⟩)
    go_ret
    exact ⟨rfl, rfl⟩
  · rw [hm] at hM
    have hs' : (((s.size : Nat) : Int) != 256) = true := by simp; omega
    cases hx : get i S.held with
    | none =>
      rw [hx] at hl2
      simp at hl2
      clear hm hs h hx
      go_enter Tryz.func112, Tryz.ntmps112
      go_wp2_with (go_at_call 106; refine hM.mono ?_; rintro e w' ⟨rfl, rfl⟩)
      go_ret
      exact ⟨rfl, rfl⟩
    | some x =>
      rw [hx] at hl2
      simp at hl2
      clear hm hs h hx
      go_enter Tryz.func112, Tryz.ntmps112
      go_wp2_with (go_at_call 106; refine hM.mono ?_; rintro e w' ⟨rfl, rfl⟩)
      go_ret
      exact ⟨rfl, rfl⟩
  · rw [hm] at hM
    rw [hx] at hl2
    simp at hl2
    have hpg := h.page _ (get_mem hx)
    have c1 := cell_of hpg 1
    simp at c1
    have h1 : s.size ≤ 256 := by omega
    have h2 : 256 ≤ s.size := by omega
    clear hm hs h hx hpg
    go_enter Tryz.func112, Tryz.ntmps112
    go_wp2_with (go_at_call 106; refine hM.mono ?_; rintro e w' ⟨rfl, rfl⟩)
    go_ret
    exact ⟨rfl, rfl⟩

theorem store_at {w : World} {p d : Nat} {F : Nat → Prop} {S : Pgr} (h : PAt w p d F S) (i : Int) (s : ByteArray) (hwf : (Lit.int .i64 i).wf = true) (hsz : s.size ≤ 140737488355328) :
    Calls Tryz.prog 112 #[.pointer (some ⟨p, 0, none⟩), .int .i64 i, .string s] w fun e w' =>
      e = .returned (.int .i64 (S.store i s).1) ∧ Stp F w w' p d (S.store i s).2 := by
  have hso := store_ok (S := S) (by obtain ⟨_, _, _, _, _, hok⟩ := h; exact hok) i s
  have hP := h
  obtain ⟨L, rfl, rfl, hA, hF, hok⟩ := h
  have key : ∀ e, (S.store i s) = (e, S) → ((S.may i ≠ 0 ∧ e = S.may i) ∨ (S.may i = 0 ∧ s.size ≠ 256 ∧ e = 3) ∨ (S.may i = 0 ∧ s.size = 256 ∧ (∃ x, get i S.held = some x ∧ 0 < x.pins) ∧ e = 10)) →
      Calls Tryz.prog 112 #[.pointer (some ⟨L.p, 0, none⟩), .int .i64 i, .string s] w fun e w' =>
      e = .returned (.int .i64 (S.store i s).1) ∧ Stp F w w' L.p L.d (S.store i s).2 := fun e h1 h2 => by
    rw [h1]
    refine (store_no hA i s hwf hsz e h2).mono ?_
    rintro e' w' ⟨rfl, rfl⟩
    exact ⟨rfl, Stp.refl hP⟩
  have key2 : S.may i = 0 → s.size = 256 → (∀ x, get i S.held = some x → x.pins = 0) → S.store i s = (0, { S with held := del i S.held, changed := ins i s S.changed }) →
      Calls Tryz.prog 112 #[.pointer (some ⟨L.p, 0, none⟩), .int .i64 i, .string s] w fun e w' =>
      e = .returned (.int .i64 (S.store i s).1) ∧ Stp F w w' L.p L.d (S.store i s).2 := fun hm hs hp h1 => by
    rw [h1] at hso ⊢
    refine (store_yes hA hok i s hwf hm hs hp (by have := changed_length hok; omega)).mono ?_
    rintro e' w' ⟨rfl, hP1, hU1⟩
    refine ⟨rfl, Stp.same hF hP1 (fun b hb => ?_) hU1 hso⟩
    rcases hb with h | h | h | h | h | h | ⟨q, hq, h⟩
    · exact .inl h
    · exact .inr (.inl h)
    · exact .inr (.inr (.inl h))
    · exact .inr (.inr (.inr (.inl h)))
    · exact .inr (.inr (.inr (.inr (.inl h))))
    · exact .inr (.inr (.inr (.inr (.inr (.inl h)))))
    · exact .inr (.inr (.inr (.inr (.inr (.inr ⟨q, (List.mem_filter.1 hq).1, h⟩)))))
  by_cases hm : S.may i = 0
  · by_cases hs : s.size = 256
    · cases hx : get i S.held with
      | none => exact key2 hm hs (by rw [hx]; simp) (by unfold Pgr.store; rw [if_neg (by simpa using hm), if_neg (by simpa using hs), hx])
      | some x =>
        by_cases hp : 0 < x.pins
        · exact key 10 (by unfold Pgr.store; rw [if_neg (by simpa using hm), if_neg (by simpa using hs), hx]; simp only; rw [if_pos hp]) (.inr (.inr ⟨hm, hs, ⟨x, hx, hp⟩, rfl⟩))
        · have hx2 := (hok.held _ (get_mem hx)).2.1
          simp only at hx2
          exact key2 hm hs (fun y hy => by rw [hx] at hy; injection hy with hy; rw [← hy]; omega) (by unfold Pgr.store; rw [if_neg (by simpa using hm), if_neg (by simpa using hs), hx]; simp only; rw [if_neg hp])
    · exact key 3 (by unfold Pgr.store; rw [if_neg (by simpa using hm), if_pos hs]) (.inr (.inl ⟨hm, hs, rfl⟩))
  · exact key (S.may i) (by unfold Pgr.store; rw [if_pos hm]) (.inl ⟨hm, rfl⟩)

/-! 'Unpin' -/
end
/-! Pin2 -/
section
set_option linter.unusedSimpArgs false
set_option linter.unusedVariables false
open Go.RowKit Go.Maps

theorem hold_clock (S : Pgr) (i : Int) (s : ByteArray) : S.clock ≤ (S.hold i s).clock ∧ (S.hold i s).clock ≤ S.clock + 1 := by
  rw [Pgr.hold_eq]
  split
  · split
    · omega
    · simp [Pgr.holdIn]; omega
  · simp [Pgr.holdIn]; omega
theorem hold_get {S : Pgr} {i : Int} {s : ByteArray} (h : (S.full && (oldest S.held).isNone) = false) : ∃ ck, Hid (get i (S.hold i s).held = some ⟨s, 0, ck⟩) := by
  rw [Pgr.hold_eq]
  cases hF : S.full
  · rw [if_neg (by simp)]; exact ⟨_, get_ins_same⟩
  · rw [if_pos rfl]
    cases ho : oldest S.held with
    | none => simp [hF, ho] at h
    | some o => exact ⟨_, get_ins_same⟩

end
/-! Keys -/
section
set_option linter.unusedSimpArgs false
set_option linter.unusedVariables false
open Go.RowKit Go.Maps Go.Sort Go.Shelf

theorem sortsI (m : Nat) : AnyZI.SortsIn Tryz.prog Tryz.sortedI_ren Fence.wide m :=
  ⟨fun blk off cap ss W hH hblk hsz => callsIn_wide.2 (AnyM.slices_Sort_int Tryz.sortI blk off cap ss W hH hblk hsz),
   fun p cap W => callsIn_wide.2 (AnyM.slices_Sort_int_none Tryz.sortI p cap W)⟩

theorem intKeys_enc : ∀ l : List (Int × Value), intKeys (.map (encL l)) = l.map (·.1) := by
  intro l
  show List.map (fun p => Go.intOf p.1) (List.map (fun p : Int × Value => (Lit.int .i64 p.1, DataW.held p.2)) l) = _
  rw [List.map_map]
  rfl

/-- the keys of a sorted list of pairs, in whatever order they come, sorted -/
theorem keys_sorted {α : Type} {l : List (Int × α)} (hs : Srt l) {ss : List Int} (hp : ss.Perm (l.map (·.1))) : ss.mergeSort (fun x y => decide (x ≤ y)) = l.map (·.1) := by
  have h1 : (ss.mergeSort (fun x y => decide (x ≤ y))).Pairwise (fun x y => x ≤ y) := by
    have := List.pairwise_mergeSort (le := fun x y : Int => decide (x ≤ y)) (by intro a b c; simp; omega) (by intro a b; simp; omega) ss
    exact this.imp (by simp)
  have h2 : (l.map (·.1)).Pairwise (fun x y => x ≤ y) := by
    rw [List.pairwise_map]; exact hs.imp (by intro a b h; omega)
  exact ((List.mergeSort_perm ss _).trans hp).eq_of_pairwise (fun a b _ _ h1 h2 => Int.le_antisymm h1 h2) h1 h2

set_option maxRecDepth 100000 in
set_option maxHeartbeats 1000000 in
theorem dirty_at {w : World} {L : PLoc} {S : Pgr} (h : PagerAt w L S) (hok : S.Ok) :
    Calls Tryz.prog 157 #[.pointer (some ⟨L.p, 0, none⟩)] w fun e w' => ∃ v : Value, e = .returned v ∧
      w'.ownsRow w.heap.size 3 1 v S.changed.length ((S.changed.map (·.1)).map encZ) ∧ (v = .slice none 0 0 ↔ S.changed = []) ∧ Below w.heap.size w w' := by
  refine (callsIn_wide (n := 6)).1 ?_
  have hown := h.changed.own
  have hlt := h.changed.lt
  have hlen := changed_length hok
  have c3 := cell_of h.p 3
  simp at c3
  have hsz : Maps.size (DataW.map (encL (changedV S.changed))) ≤ 8193 := by simp [Maps.size, encL, changedV]; exact hlen
  have hseq : SeqGives Fence.wide 2 Tryz.prog 180 #[.pointer (some ⟨w.heap.size, 0, none⟩)] encZ (fun ss => ss.Perm (intKeys (.map (encL (changedV S.changed))))) (Maps.size (DataW.map (encL (changedV S.changed)))) (w.alloc (.cells #[.map (some L.c)] 160)) :=
    AnyZI.keys_gives (ρ := Tryz.keysS_ren) { Tryz.keysS with } Fence.wide _ trivial rfl (by omega) w.heap.size L.c _ _ _ (by simp) (by simp) (by
      obtain ⟨es, clock, hb, Ft, hs, hD⟩ := hown
      exact ⟨es, clock, (Below.heap_alloc _ _ L.c hlt).trans hb, Ft, hs, hD⟩)
  have cK : ∀ mb W, CallsIn Fence.wide 5 Tryz.prog 175 #[.map mb] W fun e w' => e = .returned (.func (.func 180) #[] #[.pointer (some ⟨W.heap.size, 0, none⟩)]) ∧ w' = W.alloc (.cells #[.map mb] 160) := fun mb W => AnyZI.keys_in Tryz.keysS Fence.wide 5 trivial rfl mb W
  have cS := AnyZI.sorted_in Tryz.sortedI Fence.wide 5 trivial trivial trivial trivial rfl (by omega) (sortsI _) (enters_of Tryz.func50 (by kernel_rfl) rfl) 180 #[.pointer (some ⟨w.heap.size, 0, none⟩)] trivial (enters_of Tryz.func180 (by kernel_rfl) rfl) _ _ (by unfold maxLen; omega) (by omega) _ hseq
  change CallsIn _ _ Tryz.prog 174 _ _ _ at cS
  have hfK : Fence.wide.fn 175 := trivial
  have hfS : Fence.wide.fn 174 := trivial
  have HS := Lib.hid hok.srtc
  clear hseq hlen hsz hown h hok
  refine callsIn_of_wp Tryz.func157 rfl trivial ?_ rfl
  simp only [Tryz.ntmps157, List.size_toArray, List.length_cons, List.length_nil, Nat.reduceAdd, Nat.reduceSub, Array.replicate_succ, Array.replicate_zero, List.push_toArray, List.append_toArray, List.nil_append, List.cons_append]
  gi_wp2_with (first
    | (gi_at_call 175; refine (cK _ _).mono ?_; rintro e w' ⟨rfl, rfl⟩)
    | (gi_at_call 174; refine cS.mono ?_; rintro e w' ⟨v, ss, rfl, hS, hrow, hnil, hb⟩))
  go_ret
  rw [intKeys_enc] at hS
  have hS' : ss.Perm (S.changed.map (·.1)) := by unfold changedV at hS; rw [List.map_map] at hS; exact hS
  have hk := keys_sorted HS.out hS'
  have hl : ss.length = S.changed.length := by rw [hS'.length_eq]; simp
  rw [hk, hl] at hrow
  refine ⟨v, rfl, ownsRow_base_a hrow (by simp), ?_, ((Below.refl _ w).alloc (Nat.le_refl _) _).trans (hb.mono (by simp))⟩
  rw [hnil]
  constructor
  · intro e; rw [e] at hl; exact List.eq_nil_of_length_eq_zero hl.symm
  · intro e; rw [e] at hl; exact List.eq_nil_of_length_eq_zero hl
end
/-! Held -/
section
set_option linter.unusedSimpArgs false
set_option linter.unusedVariables false
open Go.RowKit Go.Maps Go.Shelf

theorem drewN_drewN (w : World) (a b : Nat) : (w.drewN a).drewN b = w.drewN (a + b) := World.drewN_drewN w a b






theorem cell_new (w : World) (cs : Array Value) (T : TypeId) (i : Nat) : (w.alloc (.cells cs T)).cell? ⟨w.heap.size, i, none⟩ = cs[i]? := cell_of (heap_alloc_new' w _) i
theorem cell_old {w : World} (o : Obj) {b : Nat} (hb : b < w.heap.size) (i : Nat) : (w.alloc o).cell? ⟨b, i, none⟩ = w.cell? ⟨b, i, none⟩ := World.cell?_of_block (Below.heap_alloc w o b hb)

end
/-! Make -/
section
set_option linter.unusedSimpArgs false
set_option linter.unusedVariables false
open Go.RowKit Go.Maps Go.Shelf

theorem info_u8 : (Tryz.prog.info? 5).map (fun i => (i.zero, i.size, i.bytes)) = some (some (.int .u8 0), 1, 1) := by kernel_rfl
theorem info_str : (Tryz.prog.info? 9).map (fun i => (i.zero, i.size, i.bytes)) = some (some (.string ⟨#[]⟩), 1, 16) := by kernel_rfl

def zerosB (n : Nat) : ByteArray := ⟨(List.replicate n (0 : UInt8)).toArray⟩
theorem zerosB_size (n : Nat) : (zerosB n).size = n := by simp [zerosB, ByteArray.size]
/-- a text made as long as a block -/
def blockB (s : ByteArray) : ByteArray := if 256 < s.size then s.extract 0 256 else s ++ zerosB (256 - s.size)
theorem blockB_size (s : ByteArray) : (blockB s).size = 256 := by
  unfold blockB
  split
  · simp [ByteArray.size_extract]; omega
  · rw [ByteArray.size_append, zerosB_size]; omega

theorem made_get (z : Value) (n j : Nat) (hz : z.cells = #[z]) (hj : j < n) : (madeCells z.cells n)[j]? = some z := by
  unfold madeCells
  rw [hz]
  simp [hj, Nat.mod_one]

set_option maxHeartbeats 400000 in
theorem zeros_any (n : Nat) (w : World) (hn : n ≤ 281474976710656) :
    Calls Tryz.prog 140 #[.int .i64 n] w fun e w' => e = .returned (.string (zerosB n)) ∧ Below w.heap.size w w' := by
  obtain ⟨i0, hi, hz0, hz1, hz2⟩ := info_parts info_u8
  have hmk := run_make (P := Tryz.prog) w 154 5 i0 (.int .u8 0) Tryz.underlying154 hi hz0 .i64 .i64 n n (by omega) (Int.le_refl _) (by rw [hz2]; omega) (by omega)
  rw [hz1, Nat.mul_one] at hmk
  simp only [Int.toNat_natCast] at hmk
  have hcv := run_convert_bytes_back (P := Tryz.prog) (w.alloc (.cells (madeCells (Value.int .u8 0).cells n) 5)) 154 9 5 ⟨w.heap.size, 0, none⟩ n (List.replicate n (0 : UInt8)) Tryz.underlying154 Tryz.underlying5 Tryz.underlying9 (by
    intro j hj
    have hj' : j < n := by simpa using hj
    have : (Addr.add ⟨w.heap.size, 0, none⟩ j) = ⟨w.heap.size, j, none⟩ := by unfold Addr.add; split <;> simp_all
    rw [this, cell_new, made_get _ _ _ rfl hj']
    simp)
  simp only [List.length_replicate] at hcv
  have HE : Hid (zerosB n = ⟨(List.replicate n (0 : UInt8)).toArray⟩) := rfl
  rw [← HE.out] at hcv
  clear hi hz0 hz1 hz2
  generalize zerosB n = zb at *
  generalize (Value.int .u8 0).cells = zc at *
  clear HE
  go_enter Tryz.func140, Tryz.ntmps140
  go_wp2
  go_ret
  exact ⟨rfl, (Below.refl _ w).alloc (Nat.le_refl _) _⟩

/-- k copies of a text, ahead of empty ones -/
def halfRow (s : ByteArray) (k n : Nat) : List Value := List.replicate k (.string s) ++ List.replicate (n - k) (.string ⟨#[]⟩)
theorem halfRow_length {s : ByteArray} {k n : Nat} (h : k ≤ n) : (halfRow s k n).length = n := by simp [halfRow]; omega
theorem halfRow_get {s : ByteArray} {k n j : Nat} (h : j < k) : (halfRow s k n)[j]? = some (.string s) := by
  simp [halfRow, List.getElem?_append, h]
theorem halfRow_splice {s : ByteArray} {k n m : Nat} (h : k + m ≤ n) : splice (halfRow s k n) k (List.replicate m (.string s)) = halfRow s (k + m) n := by
  unfold splice halfRow
  have e1 : (List.replicate k (Value.string s) ++ List.replicate (n - k) (Value.string ⟨#[]⟩)).take k = List.replicate k (Value.string s) := by simp
  have e2 : (List.replicate k (Value.string s) ++ List.replicate (n - k) (Value.string ⟨#[]⟩)).drop (k + (List.replicate m (Value.string s)).length) = List.replicate (n - (k + m)) (Value.string ⟨#[]⟩) := by
    rw [List.length_replicate, List.drop_append]
    simp
    omega
  rw [e1, e2, ← List.append_assoc, List.replicate_append_replicate]

/-- one copy within a row, or into it: m copies more -/
theorem copy_half {w : World} {G g0 : Nat} {s : ByteArray} {k m n sl sc dl dc so : Nat} (hrow : w.heap[G]? = some (.cells (halfRow s k n).toArray 9 (0, 0))) (hkm : k + m ≤ n) (hm : m = Nat.min sl dl)
    (hsrc : ∀ j, j < m → w.cell? ⟨g0, so + j, none⟩ = some (.string s)) :
    ∃ w', (Builtin.copy_ #[96, 96] 3 #[.slice (some ⟨G, k, none⟩) dl dc, .slice (some ⟨g0, so, none⟩) sl sc]).run Tryz.prog w = .ok (.int .i64 m) w' ∧
      w'.heap[G]? = some (.cells (halfRow s (k + m) n).toArray 9 (0, 0)) ∧ (∀ B w0, Below B w0 w → B ≤ G → Below B w0 w') := by
  obtain ⟨i0, hi, hz0, hz1, hz2⟩ := info_parts info_str
  have hsz : (Tryz.prog.info? 9).map (·.size) = some 1 := by rw [hi]; simp [hz1]
  have hl := halfRow_length (s := s) (k := k) (n := n) (by omega)
  have hrun := run_copy_row (P := Tryz.prog) w 96 96 3 9 G k dl dc ⟨g0, so, none⟩ sl sc (halfRow s k n).toArray 9 (List.replicate m (.string s)) Tryz.underlying96 hsz hrow (by simpa using hm)
    (fun j v hj => by
      have hjm : j < m := by have := (List.getElem?_eq_some_iff.1 hj).1; simpa using this
      have hv : v = .string s := by
        rw [List.getElem?_replicate] at hj; simp [hjm] at hj; exact hj.symm
      have : (Addr.add ⟨g0, so, none⟩ j) = ⟨g0, so + j, none⟩ := by unfold Addr.add; split <;> simp_all
      rw [this, hsrc j hjm, hv])
    (by simp [hl]; exact hkm) (by simp [Value.oneCell'])
  refine ⟨_, by simpa [goInt] using hrun, ?_, fun B w0 hb hBG => below_setRow hb hBG _⟩
  rw [setRow_heap w G _ _ _ _ hrow, ← halfRow_splice hkm]
  simp [splice]

set_option maxRecDepth 100000 in
set_option maxHeartbeats 1000000 in
theorem repeat_any (s : ByteArray) (n g0 : Nat) (w : World) (hn1 : 1 ≤ n) (hn2 : n ≤ 2048) (hsrc : w.cell? ⟨g0, 0, none⟩ = some (.string s)) (hg0 : g0 < w.heap.size) :
    Calls Tryz.prog 62 #[.slice (some ⟨g0, 0, none⟩) 1 1, .int .i64 n] w fun e w' => ∃ G, e = .returned (.slice (some ⟨G, 0, none⟩) n n) ∧
      w'.heap[G]? = some (.cells (List.replicate n (Value.string s)).toArray 9 (0, 0)) ∧ w.heap.size ≤ G ∧ Below w.heap.size w w' := by
  obtain ⟨i0, hi, hz0, hz1, hz2⟩ := info_parts info_str
  have hmk := fun W : World => run_make (P := Tryz.prog) W 96 9 i0 (.string ⟨#[]⟩) Tryz.underlying96 hi hz0 .i64 .i64 n n (by omega) (Int.le_refl _) (by rw [hz2]; omega) (by omega)
  rw [hz1, Nat.mul_one] at hmk
  simp only [Int.toNat_natCast] at hmk
  have hsz : (Tryz.prog.info? 9).map (·.size) = some 1 := by rw [hi]; simp [hz1]
  have hmul := Tryz.bits_Mul 1 n (by omega) (by omega) w
  rw [Nat.one_mul, Nat.div_eq_of_lt (by omega), Nat.mod_eq_of_lt (by omega)] at hmul
  have hmade : madeCells (Value.string ⟨#[]⟩).cells n = (halfRow s 0 n).toArray := by
    apply Array.ext_getElem?
    intro j
    by_cases hj : j < n
    · rw [made_get _ _ _ rfl hj]
      simp [halfRow, hj]
    · have h1 : ¬ j < (madeCells (Value.string ⟨#[]⟩).cells n).size := by rw [size_madeCells]; omega
      rw [Array.getElem?_eq_none (by omega), Array.getElem?_eq_none (by simp [halfRow]; omega)]
  rw [hmade] at hmk
  have HSZ := Lib.hid hsz
  have hhr : (halfRow s 0 n).length = n := halfRow_length (by omega)
  clear hi hz0 hz1 hz2 hmade hsz
  have HR := Lib.hid hhr
  clear hhr
  have HSRC := Lib.hid hsrc
  clear hsrc
  obtain ⟨w2, hcp, hrow2, hB2⟩ := copy_half (w := w.alloc (.cells (halfRow s 0 n).toArray 9)) (G := w.heap.size) (g0 := g0) (s := s) (k := 0) (m := 1) (n := n) (sl := 1) (sc := 1) (dl := n) (dc := n) (so := 0)
    (heap_alloc_new' w _) (by omega) (show Nat.min 1 n = 1 from Nat.min_eq_left hn1).symm (fun j hj => by obtain rfl : j = 0 := (by omega); exact (cell_old _ hg0 0).trans HSRC.out)
  have HB2 := Lib.hid (hB2 w.heap.size w ((Below.refl _ w).alloc (Nat.le_refl _) _) (Nat.le_refl _))
  rw [Nat.zero_add] at hrow2
  have HROW := Lib.hid hrow2
  clear hB2 hrow2
  go_enter Tryz.func62, Tryz.ntmps62
  go_wp2_with (go_at_call 96; refine hmul.mono ?_; rintro e w' ⟨rfl, hw⟩; obtain rfl := hw.symm; clear hw)
  go_loopw [8] (fun v wr => ∃ k : Nat, v = .int .i64 k ∧ 1 ≤ k ∧ k ≤ n ∧ Hid (wr.heap[w.heap.size]? = some (.cells (halfRow s k n).toArray 9 (0, 0))) ∧ Below w.heap.size w wr) (fun v _ => n - (intOf v).toNat)
  case atStart => exact ⟨1, rfl, by omega, by omega, HROW, HB2.out⟩
  case round =>
    obtain ⟨k, rfl, hk1, hk2, HK, hB⟩ := hrel
    clear hcp hmk hmul
    by_cases hlt : k < n
    · obtain ⟨m, hm⟩ : ∃ m, m = Nat.min k (n - k) := ⟨_, rfl⟩
      have hm1 : 1 ≤ m ∧ k + m ≤ n := by
        have : Nat.min k (n - k) = if k ≤ n - k then k else n - k := Nat.min_def
        rw [this] at hm; split at hm <;> omega
      have hrow : wr.drew.heap[w.heap.size]? = some (.cells (halfRow s k n).toArray 9 (0, 0)) := HK.out
      have hBd : Below w.heap.size w wr.drew := hB.drew
      have hmk : m ≤ k := by
        have : Nat.min k (n - k) = if k ≤ n - k then k else n - k := Nat.min_def
        rw [this] at hm; split at hm <;> omega
      obtain ⟨w3, hcp, hrow3, hB3⟩ := copy_half (G := w.heap.size) (g0 := w.heap.size) (s := s) (k := k) (m := m) (n := n) (sl := k) (sc := n) (dl := n - k) (dc := n - k) (so := 0) hrow hm1.2 hm
        (fun j hj => by rw [Nat.zero_add, cell_of hrow j, List.getElem?_toArray, halfRow_get (by omega)])
      have HB3 := Lib.hid (hB3 _ _ hBd (Nat.le_refl _))
      have HR3 := Lib.hid hrow3
      obtain ⟨hm2, hm3⟩ := hm1
      have hw : IntKind.i64.wrap ((k : Int) + (m : Int)) = (k : Int) + (m : Int) := IntWalk.i64_in _ (by omega)
      clear hrow hBd hB3 hrow3 hm hB HK
      go_wp2
      go_region
      all_goals go_wp2
      go_roundw
      case rel => exact ⟨k + m, by go_num, by omega, by omega, HR3, HB3.out⟩
      case measure => simp [intOf]; omega
    · obtain rfl : n = k := by omega
      go_wp2
      go_ret
      refine ⟨_, rfl, ?_, Nat.le_refl _, hB⟩
      have := HK.out
      rw [show halfRow s n n = List.replicate n (Value.string s) by simp [halfRow]] at this
      exact this

theorem many_any (n : Int) (w : World) :
    Calls Tryz.prog 60 #[.int .i64 n] w fun e w' => e = .returned (.bool (decide (64 ≤ n) && decide (n ≤ 2048))) ∧ w = w' := by
  by_cases h : 64 ≤ n
  · go_enter Tryz.func60, Tryz.ntmps60
    go_wp2
    go_ret
    exact ⟨by simp [h], rfl⟩
  · have hd : decide (64 ≤ n) = false := by simpa using h
    go_enter Tryz.func60, Tryz.ntmps60
    go_wp2
    go_ret
    exact ⟨by simp [hd], rfl⟩

/-- a disk of empty blocks -/
def newDsk (n : Nat) : Dsk := ⟨List.replicate n (zerosB 256), [], 0, false, false⟩

theorem repeatL_zero (n : Nat) : Lib.repeatL [(0 : UInt8)] n = List.replicate n 0 := by
  induction n with
  | zero => rfl
  | succ n ih => simp [Lib.repeatL, List.replicate_succ] at ih ⊢; exact ih

set_option maxRecDepth 100000 in
set_option maxHeartbeats 1000000 in
theorem diskNew_any (n : Nat) (w : World) (h1 : 64 ≤ n) (h2 : n ≤ 2048) :
    Calls Tryz.prog 25 #[.int .i64 n] w fun e w' => ∃ d bb, e = .returned (.tuple #[.pointer (some ⟨d, 0, none⟩), .int .i64 0]) ∧
      DiskAt w' d bb (.slice none 0 0) (newDsk n) ∧ w.heap.size ≤ d ∧ w.heap.size ≤ bb ∧ Below w.heap.size w w' := by
  have hm := many_any n w
  have hd1 : decide ((64 : Int) ≤ n) = true := by simp; omega
  have hd2 : decide ((n : Int) ≤ 2048) = true := by simp; omega
  rw [hd1, hd2] at hm
  have hrp := Tryz.strings_Repeat ⟨#[0]⟩ 256 w (by omega) (by simp [ByteArray.size])
  have HZ : Hid ((⟨(Lib.repeatL (⟨#[0]⟩ : ByteArray).data.toList 256).toArray⟩ : ByteArray) = zerosB 256) := by
    show _ = _; unfold zerosB; rw [show (⟨#[0]⟩ : ByteArray).data.toList = [(0 : UInt8)] from rfl, repeatL_zero]
  rw [HZ.out] at hrp
  clear hd1 hd2 HZ
  generalize hz : zerosB 256 = zb at *
  have HZB := Lib.hid hz
  clear hz
  go_enter Tryz.func25, Tryz.ntmps25
  go_wp2_with fail
  refine hm.mono ?_
  rintro e w' ⟨rfl, rfl⟩
  go_wp2_with fail
  refine hrp.mono ?_
  rintro e w1 ⟨rfl, hB1⟩
  go_wp2_with fail
  have hrep := repeat_any zb n w1.heap.size (w1.alloc (.cells #[.string zb] 9)) (by omega) h2 (by rw [cell_new]; rfl) (by simp)
  refine hrep.mono ?_
  rintro e w2 ⟨G, rfl, hG, hGs, hB2⟩
  have HG := Lib.hid hG
  have HB1 := Lib.hid hB1
  have HB2 := Lib.hid hB2
  have hGs' : w1.heap.size + 1 ≤ G := by simpa using hGs
  clear hG hB1 hB2 hrep hrp hm hGs
  go_wp2
  go_ret2
  have hs1 := HB1.out.size
  have hs2 := HB2.out.size
  simp at hs2
  refine ⟨w2.heap.size, G, rfl, ⟨?_, ?_, ?_⟩, by omega, by omega, ?_⟩
  · rw [heap_alloc_new']; simp [newDsk]
  · rw [Below.heap_alloc _ _ _ (lt_of HG.out), HG.out]; simp [newDsk, HZB.out]
  · exact World.ownsRow_nil _ _ _ _
  · exact ((HB1.out.alloc hs1 _).trans (HB2.out.mono (by simp; omega))).alloc (by omega) _
end
/-! Wakes -/
section
set_option linter.unusedSimpArgs false
set_option linter.unusedVariables false
open Go.RowKit Go.Maps Go.Shelf

def newPgr (D : Dsk) (room : Int) : Pgr := ⟨D, room, [], [], 0, 0⟩
theorem newPgr_ok {D : Dsk} {room : Int} (h1 : 1 ≤ room) (h2 : room ≤ 1024) (hb : 64 ≤ D.blocks.length ∧ D.blocks.length ≤ 2048) (hs : ∀ s ∈ D.blocks, s.size = 256) : (newPgr D room).Ok :=
  ⟨⟨h1, h2⟩, by simp [newPgr]; omega, List.Pairwise.nil, List.Pairwise.nil, by simp [newPgr], by simp [newPgr], by simp [newPgr], by simp [newPgr], hb, hs, Int.le_refl _, Int.le_refl _⟩

set_option maxRecDepth 100000 in
set_option maxHeartbeats 1000000 in
theorem pagerNew_ok {w : World} {d bb : Nat} {lg : Value} {D : Dsk} (h : DiskAt w d bb lg D) (room : Int) (h1 : 1 ≤ room) (h2 : room ≤ 1024) (hb : 64 ≤ D.blocks.length ∧ D.blocks.length ≤ 2048) (hs : ∀ s ∈ D.blocks, s.size = 256) :
    Calls Tryz.prog 63 #[.pointer (some ⟨d, 0, none⟩), .int .i64 room] w fun e w' => ∃ p, e = .returned (.tuple #[.pointer (some ⟨p, 0, none⟩), .int .i64 0]) ∧ w.heap.size ≤ p ∧
      PAt w' p d (fun b => (b = d ∨ b = bb ∨ lg.ownBlock = some b) ∨ (w.heap.size ≤ b ∧ b < w'.heap.size)) (newPgr D room) ∧ Below w.heap.size w w' := by
  have H := Lib.hid h
  have HOK := Lib.hid (newPgr_ok h1 h2 hb hs)
  clear h hb hs
  have hmm := @run_makeMap Tryz.prog
  go_enter Tryz.func63, Tryz.ntmps63
  go_wp2
  go_ret2
  have hd := lt_of H.out.d
  have hbb := lt_of H.out.bb
  refine ⟨_, rfl, by omega, ⟨⟨w.heap.size + 1 + 1, d, bb, w.heap.size, w.heap.size + 1, lg, fun _ => 0⟩, rfl, rfl, ⟨?_, ?_, ?_, ?_, ?_, ?_, ?_⟩, ?_, HOK.out⟩, ?_⟩
  · have := heap_alloc_new' ((w.alloc (.map #[] 0)).alloc (.map #[] 0)) (.cells #[.pointer (some ⟨d, 0, none⟩), .int .i64 room, .map (some w.heap.size), .map (some (w.heap.size + 1)), .int .i64 0, .int .i64 0] 162)
    rw [World.size_alloc, World.size_alloc] at this
    exact this
  · exact H.out.keep fun b _ _ _ hb _ _ => by
      have hl := lt_of hb
      rw [Below.heap_alloc _ _ _ (by simp; omega), Below.heap_alloc _ _ _ (by simp; omega), Below.heap_alloc _ _ _ hl]
  · exact (MapV.made w).congr (by rw [Below.heap_alloc _ _ _ (by simp; omega), Below.heap_alloc _ _ _ (by simp)])
  · have := MapV.made (w.alloc (.map #[] 0))
    rw [World.size_alloc] at this
    exact this.congr (by rw [Below.heap_alloc _ _ _ (by simp)])
  · simp [newPgr]
  · simp
  · simp [newPgr]
  · intro b hb
    simp only [World.size_alloc]
    rcases hb with h | h | h | h | h | h | ⟨q, hq, h⟩
    · simp only at h; exact .inr (by omega)
    · exact .inl (.inl h)
    · exact .inl (.inr (.inl h))
    · simp only at h; exact .inr (by omega)
    · simp only at h; exact .inr (by omega)
    · exact .inl (.inr (.inr h))
    · simp [newPgr] at hq
  · exact (((Below.refl _ w).alloc (Nat.le_refl _) _).alloc (by simp) _).alloc (by simp; omega) _
end
/-! In -/
section
set_option linter.unusedSimpArgs false
set_option linter.unusedVariables false
open Go.RowKit Go.Maps Go.Shelf

/-- a pager that lies in what was made since w0, on blocks F; below that nothing has turned -/
structure PIn (w0 w : World) (p d : Nat) (F : Nat → Prop) (S : Pgr) : Prop where
  pat : PAt w p d F S
  new : ∀ b, F b → w0.heap.size ≤ b
  below : Below w0.heap.size w0 w

theorem PAt.ok {w : World} {p d : Nat} {F : Nat → Prop} {S : Pgr} (h : PAt w p d F S) : S.Ok := by obtain ⟨_, _, _, _, _, hok⟩ := h; exact hok
theorem PIn.ok {w0 w : World} {p d : Nat} {F : Nat → Prop} {S : Pgr} (h : PIn w0 w p d F S) : S.Ok := h.pat.ok
theorem PIn.stp {w0 w w' : World} {p d : Nat} {F : Nat → Prop} {S S' : Pgr} (h : PIn w0 w p d F S) (k : Stp F w w' p d S') : PIn w0 w' p d (ext F w w') S' := by
  have hs := h.below.size
  refine ⟨k.pat, fun b hb => ?_, h.below.trans (k.upd.toBelow hs fun x hx hf => by have := h.new x hf; omega)⟩
  rcases hb with hb | hb
  · exact h.new b hb
  · omega
theorem PIn.made {w0 w w' : World} {p d : Nat} {F : Nat → Prop} {S : Pgr} (h : PIn w0 w p d F S) (k : Below w.heap.size w w') : PIn w0 w' p d F S := by
  have hs := h.below.size
  obtain ⟨⟨L, hp, hd, hA, hF, hok⟩, hn, hB⟩ := h
  exact ⟨⟨L, hp, hd, below_pager k hA, hF, hok⟩, hn, hB.trans (k.mono hs)⟩
theorem PIn.alloc {w0 w : World} {p d : Nat} {F : Nat → Prop} {S : Pgr} (h : PIn w0 w p d F S) (o : Obj) : PIn w0 (w.alloc o) p d F S := h.made ((Below.refl _ w).alloc (Nat.le_refl _) o)
theorem PIn.drewN {w0 w : World} {p d : Nat} {F : Nat → Prop} {S : Pgr} (h : PIn w0 w p d F S) (n : Nat) : PIn w0 (w.drewN n) p d F S :=
  h.made ⟨rfl, rfl, rfl, Nat.le_refl _, fun _ _ => rfl⟩

section
variable {w0 w : World} {p d : Nat} {F : Nat → Prop} {S : Pgr}
theorem load_in (h : PIn w0 w p d F S) (i : Int) (hwf : (Lit.int .i64 i).wf = true) (hc : S.clock < 4611686018427387904) (hr : S.reads < 4611686018427387904) :
    Calls Tryz.prog 66 #[.pointer (some ⟨p, 0, none⟩), .int .i64 i] w fun e w' =>
      e = .returned (.tuple #[.string (S.load i).1.1, .int .i64 (S.load i).1.2]) ∧ PIn w0 w' p d (ext F w w') (S.load i).2 ∧ Upd F w w' :=
  (load_at h.pat i hwf hc hr).mono fun _ _ ⟨he, hs⟩ => ⟨he, h.stp hs, hs.upd⟩
theorem store_in (h : PIn w0 w p d F S) (i : Int) (s : ByteArray) (hwf : (Lit.int .i64 i).wf = true) (hsz : s.size ≤ 140737488355328) :
    Calls Tryz.prog 112 #[.pointer (some ⟨p, 0, none⟩), .int .i64 i, .string s] w fun e w' =>
      e = .returned (.int .i64 (S.store i s).1) ∧ PIn w0 w' p d (ext F w w') (S.store i s).2 ∧ Upd F w w' :=
  (store_at h.pat i s hwf hsz).mono fun _ _ ⟨he, hs⟩ => ⟨he, h.stp hs, hs.upd⟩
theorem ownsRow_slice {w : World} {base : Nat} {e : TypeId} {size : Nat} {v : Value} {n : Nat} {xs : List Value} (h : w.ownsRow base e size v n xs) : ∃ a cap, v = .slice a n cap := by
  rcases h.2 with ⟨rfl, rfl⟩ | ⟨g, cap, cur, rfl, _⟩
  · exact ⟨_, _, rfl⟩
  · exact ⟨_, _, rfl⟩
theorem dirty_in (h : PIn w0 w p d F S) :
    Calls Tryz.prog 157 #[.pointer (some ⟨p, 0, none⟩)] w fun e w' => ∃ a cap, e = .returned (.slice a S.changed.length cap) ∧
      w'.ownsRow w.heap.size 3 1 (.slice a S.changed.length cap) S.changed.length ((S.changed.map (·.1)).map encZ) ∧ PIn w0 w' p d F S ∧ Below w.heap.size w w' := by
  have h' := h
  obtain ⟨⟨L, rfl, rfl, hA, _, hok⟩, _, _⟩ := h
  refine (dirty_at hA hok).mono ?_
  rintro e w' ⟨v, rfl, hrow, _, hB⟩
  obtain ⟨a, cap, rfl⟩ := ownsRow_slice hrow
  exact ⟨a, cap, rfl, hrow, h'.made hB, hB⟩
end

theorem new_in (n : Nat) (room : Int) (w0 w : World) (hB : Below w0.heap.size w0 w) (hn1 : 64 ≤ n) (hn2 : n ≤ 2048) (hr1 : 1 ≤ room) (hr2 : room ≤ 1024) (d bb : Nat) (hD : DiskAt w d bb (.slice none 0 0) (newDsk n)) (hd : w0.heap.size ≤ d) (hbb : w0.heap.size ≤ bb) :
    Calls Tryz.prog 63 #[.pointer (some ⟨d, 0, none⟩), .int .i64 room] w fun e w' => ∃ p F, e = .returned (.tuple #[.pointer (some ⟨p, 0, none⟩), .int .i64 0]) ∧ PIn w0 w' p d F (newPgr (newDsk n) room) := by
  refine (pagerNew_ok hD room (by omega) (by omega) (by simp [newDsk]; omega) (by simp [newDsk, zerosB_size])).mono ?_
  rintro e w' ⟨p, rfl, hp, hP, hB'⟩
  have hs := hB.size
  refine ⟨p, _, rfl, hP, fun b hb => ?_, hB.trans (hB'.mono hs)⟩
  rcases hb with (h | h | h) | h
  · omega
  · omega
  · simp [Value.ownBlock] at h
  · omega
theorem newDsk_n (n : Nat) : (newDsk n).n = n := by simp [Dsk.n, newDsk]
theorem newDsk_read {n : Nat} {i : Int} (h0 : 0 ≤ i) (h1 : i < n) : (newDsk n).read i = (zerosB 256, 0) := by
  have hm : (newDsk n).may i = 0 := by
    unfold Dsk.may
    rw [newDsk_n, if_neg (by simp [newDsk]), if_neg (by omega)]
  have hi : i.toNat < n := by omega
  unfold Dsk.read
  rw [if_pos hm]
  simp [newDsk, List.getD, List.getElem?_replicate, hi]
end
end Go.Proofs.YtmgcaohpbaiiaaaGreatDoor
