/- append of one element of one cell. -/
import Derived.Test.YtdoankamaobkoaaGreatDoorPCommit
set_option linter.unusedSimpArgs false
set_option linter.unusedVariables false
namespace Go.Proofs.YtdoankamaobkoaaGreatDoor
open Go.RowKit Go.Maps Go.Shelf

theorem info_int : (Tryz.prog.info? 3).map (fun i => (i.zero, i.size, i.bytes)) = some (some (.int .i64 0), 1, 8) := by kernel_rfl
theorem one_append (te sl : TypeId) (z : Value) (by_ : Nat) (hinfo : (Tryz.prog.info? te).map (fun i => (i.zero, i.size, i.bytes)) = some (some z, 1, by_)) (hu : Tryz.prog.underlying sl = some (.slice te)) (hz : z.cells.size = 1) (hby : by_ ≤ 24)
    (w : World) (base : Nat) (v : Value) (n : Nat) (xs : List Value) (u : Value) (h1 : u.oneCell' = true) (hown : w.ownsRow base te 1 v n xs) (hlen : n < 1000000000000) (hb : base ≤ w.heap.size) :
    ∃ ao co w3, (Builtin.append_ #[sl, sl] sl #[v, .slice (some ⟨w.heap.size, 0, none⟩) 1 1]).run Tryz.prog (w.alloc (.cells #[u] te)) = .ok (.slice ao (n + 1) co) w3 ∧
      w3.ownsRow base te 1 (.slice ao (n + 1) co) (n + 1) (xs ++ [u]) ∧ (∀ w0 B, Below B w0 w → w0.heap.size ≤ base → B ≤ base → Below B w0 w3) := by
  obtain ⟨i0, hi, hz0, hz1, hz2⟩ := info_parts hinfo
  obtain ⟨v3, w3, hr, hown3, hgr, _⟩ := run_append_own (P := Tryz.prog) (w.alloc (.cells #[u] te)) base sl sl te i0 z 1 by_ hu hi hz0 hz1 hz2 hz (by omega)
    v n xs (hown.alloc _) ⟨w.heap.size, 0, none⟩ 1 1 [u] rfl (by
      intro k x hk
      have hadd : Addr.add ⟨w.heap.size, 0, none⟩ k = ⟨w.heap.size, k, none⟩ := by unfold Addr.add; split <;> simp_all
      rw [hadd, cell_new]
      simpa using hk) (by simpa using h1) (by unfold maxLen; omega) (by
        calc (n + 1) * by_ ≤ (n + 1) * 24 := Nat.mul_le_mul_left _ hby
          _ ≤ 140737488355328 := by omega) (by simp; omega)
  obtain ⟨ao, co, rfl⟩ := ownsRow_slice hown3
  refine ⟨ao, co, w3, hr, hown3, fun w0 B hB hw0 hBb => ?_⟩
  have hs := hB.size
  refine (hB.trans (((Below.refl _ w).alloc (Nat.le_refl _) _).mono ?_)).grown hgr (by simp; omega) (fun k hk => Nat.le_trans hBb (hown.lt k hk).1)
  omega
end Go.Proofs.YtdoankamaobkoaaGreatDoor
