/- append of one element of one cell. -/
import Derived.Test.YtdoankamaobkoaaGreatDoorPCommit
set_option linter.unusedSimpArgs false
set_option linter.unusedVariables false
namespace Go.Proofs.YtdoankamaobkoaaGreatDoor
open Go.RowKit Go.Maps Go.Shelf

theorem info_int : (Tryz.prog.info? 3).map (fun i => (i.zero, i.size, i.bytes)) = some (some (.int .i64 0), 1, 8) := by kernel_rfl
theorem one_append (te sl : TypeId) (z : Value) (by_ : Nat) (hinfo : (Tryz.prog.info? te).map (fun i => (i.zero, i.size, i.bytes)) = some (some z, 1, by_)) (hu : Tryz.prog.underlying sl = some (.slice te)) (hz : z.cells.size = 1) (hby : by_ ≤ 24)
    (w : World) (base : Nat) (v : Value) (n : Nat) (xs : List Value) (u : Value) (h1 : u.oneCell' = true) (hown : w.ownsRow base te 1 v n xs) (hlen : n < 1000000000000) (hb : base ≤ w.heap.size) :
    ∃ ao co w3, (Builtin.append_ #[sl, sl] sl #[v, .slice (some ⟨w.heap.size, 0, none⟩) 1 1]).run Tryz.prog (w.alloc (.cells #[u] te)) = .ok (.slice ao (n + 1) co) w3 ∧
      w3.ownsRow base te 1 (.slice ao (n + 1) co) (n + 1) (xs ++ [u]) ∧ (∀ w0 B, Below B w0 w → w0.heap.size ≤ base → B ≤ base → Below B w0 w3) := by
  obtain ⟨i0, hi, hz0, hz1, hz2⟩ := info_parts hinfo
  obtain ⟨v3, w3, hr, hown3, hgr, _⟩ := run_append_own (P := Tryz.prog) (w.alloc (.cells #[u] te)) base sl sl te i0 z 1 by_ hu hi hz0 hz1 hz2 hz (by omega)
    v n xs (hown.alloc _) ⟨w.heap.size, 0, none⟩ 1 1 [u] rfl (by
      intro k x hk
      have hadd : Addr.add ⟨w.heap.size, 0, none⟩ k = ⟨w.heap.size, k, none⟩ := by unfold Addr.add; split <;> simp_all
      rw [hadd, cell_new]
      simpa using hk) (by simpa using h1) (by unfold maxLen; omega) (by
        calc (n + 1) * by_ ≤ (n + 1) * 24 := Nat.mul_le_mul_left _ hby
          _ ≤ 140737488355328 := by omega) (by simp; omega)
  obtain ⟨ao, co, rfl⟩ := ownsRow_slice hown3
  refine ⟨ao, co, w3, hr, hown3, fun w0 B hB hw0 hBb => ?_⟩
  have hs := hB.size
  refine (hB.trans (((Below.refl _ w).alloc (Nat.le_refl _) _).mono ?_)).grown hgr (by simp; omega) (fun k hk => Nat.le_trans hBb (hown.lt k hk).1)
  omega
/-- the same, with what else is as it was -/
theorem one_append_at (te sl : TypeId) (z : Value) (by_ : Nat) (hinfo : (Tryz.prog.info? te).map (fun i => (i.zero, i.size, i.bytes)) = some (some z, 1, by_)) (hu : Tryz.prog.underlying sl = some (.slice te)) (hz : z.cells.size = 1) (hby : by_ ≤ 24)
    (w : World) (base : Nat) (v : Value) (n : Nat) (xs : List Value) (u : Value) (h1 : u.oneCell' = true) (hown : w.ownsRow base te 1 v n xs) (hlen : n < 1000000000000) (hb : base ≤ w.heap.size) :
    ∃ ao co w3, (Builtin.append_ #[sl, sl] sl #[v, .slice (some ⟨w.heap.size, 0, none⟩) 1 1]).run Tryz.prog (w.alloc (.cells #[u] te)) = .ok (.slice ao (n + 1) co) w3 ∧
      w3.ownsRow base te 1 (.slice ao (n + 1) co) (n + 1) (xs ++ [u]) ∧ (∀ w0 B, Below B w0 w → w0.heap.size ≤ base → B ≤ base → Below B w0 w3) ∧ (∀ b, b < w.heap.size → v.ownBlock ≠ some b → w3.heap[b]? = w.heap[b]?) ∧ w.heap.size ≤ w3.heap.size := by
  obtain ⟨i0, hi, hz0, hz1, hz2⟩ := info_parts hinfo
  obtain ⟨v3, w3, hr, hown3, hgr, _⟩ := run_append_own (P := Tryz.prog) (w.alloc (.cells #[u] te)) base sl sl te i0 z 1 by_ hu hi hz0 hz1 hz2 hz (by omega)
    v n xs (hown.alloc _) ⟨w.heap.size, 0, none⟩ 1 1 [u] rfl (by
      intro k x hk
      have hadd : Addr.add ⟨w.heap.size, 0, none⟩ k = ⟨w.heap.size, k, none⟩ := by unfold Addr.add; split <;> simp_all
      rw [hadd, cell_new]
      simpa using hk) (by simpa using h1) (by unfold maxLen; omega) (by
        calc (n + 1) * by_ ≤ (n + 1) * 24 := Nat.mul_le_mul_left _ hby
          _ ≤ 140737488355328 := by omega) (by simp; omega)
  obtain ⟨ao, co, rfl⟩ := ownsRow_slice hown3
  refine ⟨ao, co, w3, hr, hown3, fun w0 B hB hw0 hBb => ?_, fun b hbl hne => ?_, ?_⟩
  · have hs := hB.size
    refine (hB.trans (((Below.refl _ w).alloc (Nat.le_refl _) _).mono ?_)).grown hgr (by simp; omega) (fun k hk => Nat.le_trans hBb (hown.lt k hk).1)
    omega
  · exact (hgr.block b (by simp; omega) (fun e => hne e.symm)).trans (Below.heap_alloc w _ b hbl)
  · have := hgr.size; simp at this; omega
/-- an owned row where its own block is as it was -/
theorem ownsRow_keep {w w' : World} {base : Nat} {T : TypeId} {sz : Nat} {v : Value} {n : Nat} {xs : List Value} (h : w.ownsRow base T sz v n xs) (hk : ∀ g, v.ownBlock = some g → w'.heap[g]? = w.heap[g]?) : w'.ownsRow base T sz v n xs := by
  obtain ⟨hl, hr⟩ := h
  refine ⟨hl, ?_⟩
  rcases hr with hr | ⟨g, cap, cur, rfl, hb, hg, rest⟩
  · exact .inl hr
  · exact .inr ⟨g, cap, cur, rfl, hb, (hk g rfl).trans hg, rest⟩
theorem ownsRow_block {w : World} {base : Nat} {T : TypeId} {sz : Nat} {v : Value} {n : Nat} {xs : List Value} (h : w.ownsRow base T sz v n xs) {g : Nat} (hg : v.ownBlock = some g) : ∃ cur, w.heap[g]? = some (.cells cur T (0, 0)) := by
  rcases h.2 with ⟨rfl, _⟩ | ⟨g', cap, cur, rfl, _, hb, _⟩
  · simp [Value.ownBlock] at hg
  · simp [Value.ownBlock] at hg; subst hg; exact ⟨cur, hb⟩
end Go.Proofs.YtdoankamaobkoaaGreatDoor
