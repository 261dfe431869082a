/- The disk's log, copied. -/
import Derived.Test.YtdoankamaobkoaaGreatQNew2
set_option linter.unusedSimpArgs false
set_option linter.unusedVariables false
namespace Go.Proofs.YtdoankamaobkoaaGreat
open Go.RowKit Go.Maps Go.Shelf Go.Builtin

theorem run_copy_rows {P : Program} (w : World) (dT sT ty elem : TypeId) (g dCap : Nat) (a : Addr) (n sCap sz : Nat) (cur : Array Value) (t : TypeId) (cs : List Value)
    (hu : P.underlying dT = some (.slice elem)) (hs : (P.info? elem).map (·.size) = some sz)
    (hg : w.heap[g]? = some (.cells cur t (0, 0))) (hn : cs.length = n * sz)
    (hsrc : ∀ j v, cs[j]? = some v → w.cell? (a.add j) = some v) (hfit : cs.length ≤ cur.size) (h1 : ∀ v ∈ cs, v.oneCell' = true) :
    (Builtin.copy_ #[dT, sT] ty #[.slice (some ⟨g, 0, none⟩) n dCap, .slice (some a) n sCap]).run P w =
      .ok (goInt n) (w.setRow g (cs ++ cur.toList.drop cs.length).toArray) := by
  have hl := run_loadCells_list (P := P) w a cs hsrc
  have hst := run_storeCells_at P g 0 t cs 0 cur w hg (by simpa using hfit) h1
  cases hq : P.info? elem with
  | none => simp [hq] at hs
  | some i =>
    have hi : i.size = sz := by simpa [hq] using hs
    simp [Builtin.copy_, run_underlying hu, Builtin.lenOf, Builtin.firstCells, sizeOf, typeInfo, hq, hi, ← hn, hl, hst]
theorem run_copy_none {P : Program} (w : World) (dT sT ty elem : TypeId) (g dCap sz : Nat) (hu : P.underlying dT = some (.slice elem)) (hs : (P.info? elem).map (·.size) = some sz) :
    (Builtin.copy_ #[dT, sT] ty #[.slice (some ⟨g, 0, none⟩) 0 dCap, .slice none 0 0]).run P w = .ok (goInt 0) w := by
  cases hq : P.info? elem with
  | none => simp [hq] at hs
  | some i => simp [Builtin.copy_, run_underlying hu, Builtin.lenOf, Builtin.firstCells, sizeOf, typeInfo, hq, storeCells]

set_option maxRecDepth 100000 in
set_option maxHeartbeats 2000000 in
theorem log_any {w : World} {d bb : Nat} {lg : Value} {S : Dsk} (h : DiskAt w d bb lg S) (hn : S.log.length ≤ 1000000000000) :
    Calls Tryz.prog 29 #[.pointer (some ⟨d, 0, none⟩)] w fun e w' => ∃ a c, e = .returned (.slice a S.log.length c) ∧ PRow w' a S.log ∧ Below w.heap.size w w' := by
  obtain ⟨i0, hi, hz0, hz1, hz2⟩ := info_parts info_page
  have hmk := run_make (P := Tryz.prog) w 53 78 i0 (.agg #[.int .i64 0, .string ⟨#[]⟩]) Tryz.underlying53 hi hz0 .i64 .i64 S.log.length S.log.length (by omega) (Int.le_refl _) (by rw [hz2]; omega) (by omega)
  rw [hz1] at hmk
  simp only [Int.toNat_natCast] at hmk
  have hsz : (Tryz.prog.info? 78).map (·.size) = some 2 := by rw [hi]; simp [hz1]
  have c1 : w.cell? ⟨d, 1, none⟩ = some lg := by rw [cell_of h.d]; rfl
  have hdl := lt_of h.d
  generalize hmc : madeCells (Value.agg #[.int .i64 0, .string ⟨#[]⟩]).cells (S.log.length * 2) = mc at *
  have hms : mc.size = S.log.length * 2 := by rw [← hmc, size_madeCells]
  have c1b : (w.alloc (.cells mc 78)).cell? ⟨d, 1, none⟩ = some lg := (cell_old _ hdl 1).trans c1
  have hB1 : Below w.heap.size w (w.alloc (.cells mc 78)) := (Below.refl _ w).alloc (Nat.le_refl _) _
  rcases h.lg.2 with ⟨rfl, h0⟩ | ⟨g, cap, cur, rfl, -, hg, -⟩
  · have hcp := run_copy_none (P := Tryz.prog) (w.alloc (.cells mc 78)) 53 53 3 78 w.heap.size 0 2 Tryz.underlying53 hsz
    have HP : Hid (PRow (w.alloc (.cells mc 78)) (some ⟨w.heap.size, 0, none⟩) S.log) := fun i hi => by omega
    have HB := Lib.hid hB1
    have hl : S.log.length = 0 := h0
    clear hi hz0 hz1 hz2 h hsz hmc hB1
    have HL : Hid (S.log.length = 0) := hl
    rw [hl] at hmk ⊢
    change (Instr.makeSlice 53 (.int .i64 0) (.int .i64 0)).run _ _ = _ at hmk
    clear hl h0 hn hms
    go_enter Tryz.func29, Tryz.ntmps29
    go_wp2
    go_ret
    exact ⟨_, _, rfl, HP.out, HB.out⟩
  · have hgl := lt_of hg
    have hcp := run_copy_rows (P := Tryz.prog) (w.alloc (.cells mc 78)) 53 53 3 78 w.heap.size S.log.length ⟨g, 0, none⟩ S.log.length cap 2 mc 78 (pageCells S.log) Tryz.underlying53 hsz (heap_alloc_new' w _) (pageCells_len _)
      (fun j v hj => by
        rw [add_none, Nat.zero_add, cell_old _ hgl]
        have hjl := (List.getElem?_eq_some_iff.1 hj).1
        rw [pageCells_len] at hjl
        rw [h.lg.cellAt j (by omega)]; exact hj) (by rw [pageCells_len, hms]; exact Nat.le_refl _) (pageCells_one _)
    have hdrop : mc.toList.drop (pageCells S.log).length = [] := List.drop_of_length_le (by rw [Array.length_toList, hms, pageCells_len]; exact Nat.le_refl _)
    rw [hdrop, List.append_nil] at hcp
    have hrow := setRow_heap (w.alloc (.cells mc 78)) w.heap.size mc (pageCells S.log).toArray 78 _ (heap_alloc_new' w _)
    have HB := Lib.hid (below_setRow (B := w.heap.size) (g := w.heap.size) (w0 := w) hB1 (Nat.le_refl _) (pageCells S.log).toArray)
    have HP : Hid (PRow ((w.alloc (.cells mc 78)).setRow w.heap.size (pageCells S.log).toArray) (some ⟨w.heap.size, 0, none⟩) S.log) := fun i hi => by
      refine ⟨_, rfl, lt_of hrow, ?_, ?_⟩
      · obtain ⟨p1, p2⟩ := pageCells_get S.log i hi
        rw [cell_of hrow, List.getElem?_toArray, p1, List.getD_eq_getElem?_getD, List.getElem?_eq_getElem hi]; rfl
      · obtain ⟨p1, p2⟩ := pageCells_get S.log i hi
        rw [cell_of hrow, List.getElem?_toArray, p2, List.getD_eq_getElem?_getD, List.getElem?_eq_getElem hi]; rfl
    clear hi hz0 hz1 hz2 h hsz hmc hB1 hrow hdrop hg hms
    generalize (pageCells S.log).toArray = row at *
    obtain ⟨N, HN⟩ : ∃ N, Hid (S.log.length = N) := ⟨_, Lib.hid rfl⟩
    rw [HN.out] at hmk hcp c1 c1b hn ⊢
    go_enter Tryz.func29, Tryz.ntmps29
    go_wp2
    go_ret
    exact ⟨_, _, rfl, HP.out, HB.out⟩
end Go.Proofs.YtdoankamaobkoaaGreat
