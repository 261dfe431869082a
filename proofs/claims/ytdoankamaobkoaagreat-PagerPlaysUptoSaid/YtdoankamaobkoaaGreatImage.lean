/- The disk's Image; Same; kind. -/
import Derived.Test.YtdoankamaobkoaaGreatJ1
import Derived.Test.YtdoankamaobkoaaGreatKind
import Derived.Laws.CopyOwn
import Derived.Laws.Bits64
set_option linter.unusedSimpArgs false
set_option linter.unusedVariables false
namespace Go.Proofs.YtdoankamaobkoaaGreat
open Go.RowKit Go.Maps Go.Shelf

set_option maxRecDepth 100000 in
set_option maxHeartbeats 1000000 in
theorem image_any {w : World} {d bb : Nat} {lg : Value} {S : Dsk} (h : DiskAt w d bb lg S) (hn : S.blocks.length ≤ 2048) :
    Calls Tryz.prog 14 #[.pointer (some ⟨d, 0, none⟩)] w fun e w' => ∃ G, e = .returned (.slice (some ⟨G, 0, none⟩) S.blocks.length S.blocks.length) ∧
      w'.heap[G]? = some (.cells (S.blocks.map Value.string).toArray 9 (0, 0)) ∧ w.heap.size ≤ G ∧ Below w.heap.size w w' := by
  obtain ⟨i0, hi, hz0, hz1, hz2⟩ := info_parts info_str
  have hmk := run_make (P := Tryz.prog) w 37 9 i0 (.string ⟨#[]⟩) Tryz.underlying37 hi hz0 .i64 .i64 S.blocks.length S.blocks.length (by omega) (Int.le_refl _) (by rw [hz2]; omega) (by omega)
  rw [hz1, Nat.mul_one] at hmk
  simp only [Int.toNat_natCast] at hmk
  have hsz : (Tryz.prog.info? 9).map (·.size) = some 1 := by rw [hi]; simp [hz1]
  have c0 := cell_of h.d 0
  simp at c0
  have hcp := run_copy_row (P := Tryz.prog) (w.alloc (.cells (madeCells (Value.string ⟨#[]⟩).cells S.blocks.length) 9)) 37 37 3 9 w.heap.size 0 S.blocks.length S.blocks.length ⟨bb, 0, none⟩ S.blocks.length S.blocks.length _ 9 (S.blocks.map Value.string) Tryz.underlying37 hsz (heap_alloc_new' w _) (by simp)
    (fun j v hj => by
      have hadd : Addr.add ⟨bb, 0, none⟩ j = ⟨bb, j, none⟩ := by unfold Addr.add; split <;> simp_all
      rw [hadd, World.cell?_of_block (a := ⟨bb, j, none⟩) (Below.heap_alloc w _ bb (lt_of h.bb)), cell_of h.bb j]
      simpa using hj) (by rw [size_madeCells]; simp [Value.cells]) (by simp [Value.oneCell'])
  have hrow := setRow_heap (w.alloc (.cells (madeCells (Value.string ⟨#[]⟩).cells S.blocks.length) 9)) w.heap.size _ ((madeCells (Value.string ⟨#[]⟩).cells S.blocks.length).toList.take 0 ++ S.blocks.map Value.string ++ (madeCells (Value.string ⟨#[]⟩).cells S.blocks.length).toList.drop (0 + (S.blocks.map Value.string).length)).toArray 9 _ (heap_alloc_new' w _)
  have hB := below_setRow (B := w.heap.size) (g := w.heap.size) (w0 := w) ((Below.refl _ w).alloc (Nat.le_refl _) (.cells (madeCells (Value.string ⟨#[]⟩).cells S.blocks.length) 9)) (Nat.le_refl _) ((madeCells (Value.string ⟨#[]⟩).cells S.blocks.length).toList.take 0 ++ S.blocks.map Value.string ++ (madeCells (Value.string ⟨#[]⟩).cells S.blocks.length).toList.drop (0 + (S.blocks.map Value.string).length)).toArray
  have hdrop : (madeCells (Value.string ⟨#[]⟩).cells S.blocks.length).toList.drop (0 + (S.blocks.map Value.string).length) = [] := by
    apply List.drop_of_length_le
    rw [Array.length_toList, size_madeCells]
    simp [Value.cells]
  rw [hdrop, List.take_zero, List.nil_append, List.append_nil] at hcp hrow hB
  have hbA : ((w.alloc (.cells (madeCells (Value.string ⟨#[]⟩).cells S.blocks.length) 9))).cell? ⟨d, 0, none⟩ = some (.slice (some ⟨bb, 0, none⟩) S.blocks.length S.blocks.length) :=
    (World.cell?_of_block (a := ⟨d, 0, none⟩) (Below.heap_alloc w _ d (lt_of h.d))).trans c0
  have HROW := Lib.hid hrow
  have HB := Lib.hid hB
  clear hrow hB hdrop hi hz0 hz1 hz2 h hsz
  generalize madeCells (Value.string ⟨#[]⟩).cells S.blocks.length = mc at *
  generalize (S.blocks.map Value.string).toArray = row at *
  simp only [List.length_map] at hcp
  generalize S.blocks.length = n at *
  go_enter Tryz.func14, Tryz.ntmps14
  go_wp2
  go_ret
  exact ⟨w.heap.size, rfl, HROW.out, Nat.le_refl _, HB.out⟩

theorem bytes_ne {x y : ByteArray} (h : x ≠ y) : (x.toList == y.toList) = false := by
  rw [ByteArray.toList_eq, ByteArray.toList_eq]
  simp only [beq_eq_false_iff_ne, ne_eq]
  intro e
  apply h
  have := Array.toList_inj.1 e
  cases x; cases y; simp_all
set_option maxRecDepth 100000 in
set_option maxHeartbeats 1000000 in
theorem same_any (w : World) (G1 G2 c1 c2 : Nat) (a b : List ByteArray) (hn : a.length ≤ 2048) (h1 : w.heap[G1]? = some (.cells (a.map Value.string).toArray 9 (0, 0))) (h2 : w.heap[G2]? = some (.cells (b.map Value.string).toArray 9 (0, 0))) :
    Calls Tryz.prog 18 #[.slice (some ⟨G1, 0, none⟩) a.length c1, .slice (some ⟨G2, 0, none⟩) b.length c2] w fun e w' => e = .returned (.bool (decide (a = b))) ∧ Below w.heap.size w w' := by
  by_cases hl : a.length = b.length
  · obtain ⟨r, hr⟩ : ∃ r, r = decide (a = b) := ⟨_, rfl⟩
    rw [← hr]
    have HR := Lib.hid hr
    rw [← hl]
    obtain ⟨N, hN⟩ : ∃ N, N = a.length := ⟨_, rfl⟩
    rw [← hN] at hn hl ⊢
    have HN := Lib.hid hN
    have HL := Lib.hid hl
    clear hN hl hr
    have H1 := Lib.hid h1
    have H2 := Lib.hid h2
    clear h1 h2
    go_enter Tryz.func18, Tryz.ntmps18
    go_wp2
    go_loopw [13] (fun u wr => ∃ j : Nat, u = .int .i64 j ∧ j ≤ N ∧ Hid (a.take j = b.take j) ∧ Below w.heap.size w wr) (fun u _ => N - (intOf u).toNat)
    case atStart => exact ⟨0, rfl, by omega, rfl, Below.refl _ w⟩
    case round =>
      obtain ⟨j, rfl, hj, HE, hB⟩ := hrel
      by_cases hlt : j < N
      · have ha : j < a.length := by have := HN.out; omega
        have hb : j < b.length := by have := HL.out; omega
        have ca := (hB.cell (p := ⟨G1, j, none⟩) (lt_of H1.out)).trans (cell_of H1.out j)
        have cb := (hB.cell (p := ⟨G2, j, none⟩) (lt_of H2.out)).trans (cell_of H2.out j)
        simp [ha, hb] at ca cb
        have hta := List.take_succ_eq_append_getElem ha
        have htb := List.take_succ_eq_append_getElem hb
        by_cases he : a[j] = b[j]
        · have HE2 : Hid (a.take (j + 1) = b.take (j + 1)) := by show _ = _; rw [hta, htb, HE.out, he]
          rw [he] at ca
          clear HE hta htb he
          generalize b[j] = x at *
          go_wp2
          go_quiet (fail)
          go_wp2
          go_roundw
          case rel => exact ⟨j + 1, rfl, by omega, HE2, below_drewN hB _⟩
          case measure => simp [intOf]; omega
        · have hr : r = false := by
            rw [HR.out]
            simp only [decide_eq_false_iff_not]
            intro e
            subst e
            exact he rfl
          have hne : (a[j].toList == b[j].toList) = false := bytes_ne he
          subst hr
          clear HE hta htb he
          generalize a[j] = x at *
          generalize b[j] = y at *
          go_wp2
          go_quiet (fail)
          go_wp2
          go_ret
          exact ⟨rfl, below_drewN hB _⟩
      · obtain rfl : j = N := by omega
        have hr : r = true := by
          have e := HE.out
          rw [List.take_of_length_le (by have := HN.out; omega), List.take_of_length_le (by have := HL.out; omega)] at e
          rw [HR.out, e]; simp
        subst hr
        go_wp2
        go_ret
        exact ⟨rfl, hB⟩
  · have hr : decide (a = b) = false := by simp; intro e; exact hl (by rw [e])
    rw [hr]
    have hb : ((a.length : Int) != (b.length : Int)) = true := by simp; omega
    clear h1 h2 hl hr
    go_enter Tryz.func18, Tryz.ntmps18
    go_wp2
    go_ret
    exact ⟨rfl, Below.refl _ w⟩
end Go.Proofs.YtdoankamaobkoaaGreat
