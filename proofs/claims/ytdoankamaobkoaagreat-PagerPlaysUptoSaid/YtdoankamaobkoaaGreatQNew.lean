/- Two rows of texts, or of pages, that are alike; the reference's new disk. -/
import Derived.Test.YtdoankamaobkoaaGreatQRows
set_option linter.unusedSimpArgs false
set_option linter.unusedVariables false
namespace Go.Proofs.YtdoankamaobkoaaGreat
open Go.RowKit Go.Maps Go.Shelf

/-- a row of texts -/
def TRow (w : World) (a : Option Addr) (l : List ByteArray) : Prop := ∀ i, i < l.length → ∃ g, a = some ⟨g, 0, none⟩ ∧ g < w.heap.size ∧ w.cell? ⟨g, i, none⟩ = some (.string (l.getD i ⟨#[]⟩))
def PRow (w : World) (a : Option Addr) (l : Pgs) : Prop := ∀ i, i < l.length → ∃ g, a = some ⟨g, 0, none⟩ ∧ g < w.heap.size ∧ w.cell? ⟨g, i * 2, none⟩ = some (.int .i64 (l.getD i (0, ⟨#[]⟩)).1) ∧ w.cell? ⟨g, i * 2 + 1, none⟩ = some (.string (l.getD i (0, ⟨#[]⟩)).2)
theorem TRow.made {w w' : World} {a : Option Addr} {l : List ByteArray} (h : TRow w a l) (hB : Below w.heap.size w w') : TRow w' a l := fun i hi => by
  obtain ⟨g, ha, hg, hc⟩ := h i hi
  exact ⟨g, ha, by have := hB.size; omega, (hB.cell (p := ⟨g, i, none⟩) hg).trans hc⟩
theorem PRow.made {w w' : World} {a : Option Addr} {l : Pgs} (h : PRow w a l) (hB : Below w.heap.size w w') : PRow w' a l := fun i hi => by
  obtain ⟨g, ha, hg, hc, hd⟩ := h i hi
  exact ⟨g, ha, by have := hB.size; omega, (hB.cell (p := ⟨g, i * 2, none⟩) hg).trans hc, (hB.cell (p := ⟨g, i * 2 + 1, none⟩) hg).trans hd⟩
theorem tRow_own {w : World} {base : Nat} {a : Option Addr} {cap : Nat} {l : List ByteArray} (h : w.ownsRow base 9 1 (.slice a l.length cap) l.length (l.map Value.string)) : TRow w a l := fun i hi => by
  rcases h.2 with ⟨he, h0⟩ | ⟨g, cap', cur, he, _⟩
  · omega
  · simp only [Value.slice.injEq] at he
    obtain ⟨rfl, -, rfl⟩ := he
    have hl := h.lt g rfl
    refine ⟨g, rfl, hl.2, ?_⟩
    rw [h.cellAt i (by omega), List.getElem?_map, List.getElem?_eq_getElem (by omega), List.getD_eq_getElem?_getD, List.getElem?_eq_getElem (by omega)]; rfl
theorem tRow_block {w : World} {g : Nat} {l : List ByteArray} (h : w.heap[g]? = some (.cells (l.map Value.string).toArray 9 (0, 0))) : TRow w (some ⟨g, 0, none⟩) l := fun i hi => by
  refine ⟨g, rfl, lt_of h, ?_⟩
  rw [cell_of h i, List.getElem?_toArray, List.getElem?_map, List.getElem?_eq_getElem hi, List.getD_eq_getElem?_getD, List.getElem?_eq_getElem hi]; rfl
theorem pRow_own {w : World} {base : Nat} {a : Option Addr} {cap : Nat} {l : Pgs} (h : w.ownsRow base 78 2 (.slice a l.length cap) l.length (pageCells l)) : PRow w a l := fun i hi => by
  rcases h.2 with ⟨he, h0⟩ | ⟨g, cap', cur, he, _⟩
  · omega
  · have hp := pagesIn_own h rfl (by simp only [Value.slice.injEq] at he; obtain ⟨rfl, -, rfl⟩ := he; exact (h.lt g rfl).2)
    obtain ⟨g2, e, h1, h2⟩ := pagesIn_at hp hi
    subst e
    exact ⟨g2, rfl, (h.lt g2 rfl).2, h1, h2⟩
set_option maxHeartbeats 1000000 in
set_option maxRecDepth 100000 in
theorem sameTexts_any (a1 a2 : Option Addr) (c1 c2 : Nat) (l : List ByteArray) (w : World) (hl : l.length ≤ 100000) (h1 : TRow w a1 l) (h2 : TRow w a2 l) :
    Calls Tryz.prog 18 #[.slice a1 l.length c1, .slice a2 l.length c2] w fun e w' => e = .returned (.bool true) ∧ Below w.heap.size w w' := by
  have H1 := Lib.hid h1
  have H2 := Lib.hid h2
  clear h1 h2
  generalize hm : l.length = m at *
  go_enter Tryz.func18, Tryz.ntmps18
  go_wp2
  go_loopw [13] (fun v wr => ∃ (k q : Nat), v = .int .i64 k ∧ k ≤ m ∧ wr = w.drewN q) (fun v _ => m - (intOf v).toNat)
  case atStart => exact ⟨0, 0, rfl, by omega, rfl⟩
  case round =>
    obtain ⟨k, q, rfl, hk, rfl⟩ := hrel
    by_cases hlt : k < m
    · obtain ⟨g1, rfl, hg1, e1⟩ := H1.out k (by omega)
      obtain ⟨g2, rfl, hg2, e2⟩ := H2.out k (by omega)
      generalize l.getD k ⟨#[]⟩ = v at *
      have f1 : ∀ p, (w.drewN p).cell? ⟨g1, k, none⟩ = some (.string v) := fun p => e1
      have f2 : ∀ p, (w.drewN p).cell? ⟨g2, k, none⟩ = some (.string v) := fun p => e2
      go_upto_region 6 with fail
      go_quiet (fail)
      go_wp2
      go_roundw
      case rel => exact ⟨k + 1, _, by go_num, by omega, rfl⟩
      case measure => simp [intOf]; omega
    · obtain rfl : k = m := by omega
      go_wp2
      go_ret
      exact ⟨rfl, qdrew_below w q⟩
set_option maxHeartbeats 1000000 in
set_option maxRecDepth 100000 in
theorem samePages_any (a1 a2 : Option Addr) (c1 c2 : Nat) (l : Pgs) (w : World) (hl : l.length ≤ 1000000000000) (h1 : PRow w a1 l) (h2 : PRow w a2 l) :
    Calls Tryz.prog 28 #[.slice a1 l.length c1, .slice a2 l.length c2] w fun e w' => e = .returned (.bool true) ∧ Below w.heap.size w w' := by
  have H1 := Lib.hid h1
  have H2 := Lib.hid h2
  clear h1 h2
  generalize hm : l.length = m at *
  go_enter Tryz.func28, Tryz.ntmps28
  go_wp2
  go_loopw [13] (fun v wr => ∃ (k q : Nat), v = .int .i64 k ∧ k ≤ m ∧ wr = w.drewN q) (fun v _ => m - (intOf v).toNat)
  case atStart => exact ⟨0, 0, rfl, by omega, rfl⟩
  case round =>
    obtain ⟨k, q, rfl, hk, rfl⟩ := hrel
    by_cases hlt : k < m
    · obtain ⟨g1, rfl, hg1, e1, e1'⟩ := H1.out k (by omega)
      obtain ⟨g2, rfl, hg2, e2, e2'⟩ := H2.out k (by omega)
      generalize (l.getD k (0, ⟨#[]⟩)).1 = v at *
      generalize (l.getD k (0, ⟨#[]⟩)).2 = x at *
      have f1 : ∀ p, (w.drewN p).cell? ⟨g1, k * 2, none⟩ = some (.int .i64 v) := fun p => e1
      have f1' : ∀ p, (w.drewN p).cell? ⟨g1, k * 2 + 1, none⟩ = some (.string x) := fun p => e1'
      have f2 : ∀ p, (w.drewN p).cell? ⟨g2, k * 2, none⟩ = some (.int .i64 v) := fun p => e2
      have f2' : ∀ p, (w.drewN p).cell? ⟨g2, k * 2 + 1, none⟩ = some (.string x) := fun p => e2'
      go_upto_region 6 with fail
      go_quiet (fail)
      go_wp2
      go_roundw
      case rel => exact ⟨k + 1, _, by go_num, by omega, rfl⟩
      case measure => simp [intOf]; omega
    · obtain rfl : k = m := by omega
      go_wp2
      go_ret
      exact ⟨rfl, qdrew_below w q⟩
end Go.Proofs.YtdoankamaobkoaaGreat
