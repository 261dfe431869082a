/- leaf.Size; tree.must, down, settle. -/
import Derived.Test.YtmgcaohpbaiiaaaGreatDoorTMem
import Derived.Defers
import Derived.Recover
set_option linter.unusedSimpArgs false
set_option linter.unusedVariables false
namespace Go.Proofs.YtmgcaohpbaiiaaaGreatDoor
open Go.RowKit Go.Maps Go.Shelf

theorem must_ok (w : World) : Calls Tryz.prog 44 #[.int .i64 0] w fun e w' => e = .returned (.tuple #[]) ∧ w = w' := by
  go_enter Tryz.func44, Tryz.ntmps44
  go_wp2
  go_end0
  exact ⟨rfl, rfl⟩
theorem down_any (n : Int) (w : World) (h0 : 0 ≤ n) (hn : n ≤ 64) : Calls Tryz.prog 38 #[.int .i64 n] w fun e w' => e = .returned (.int .i64 (n + 1)) ∧ w = w' := by
  have h1 : IntKind.i64.wrap (n + 1) = n + 1 := IntWalk.i64_in _ (by omega)
  have h2 : ¬ (64 < n) := by omega
  go_enter Tryz.func38, Tryz.ntmps38
  go_wp2
  go_ret
  exact ⟨rfl, rfl⟩
/-- nothing has been given up: nothing is caught -/
theorem settle_idle (p : Addr) (w : World) :
    CallsD Tryz.prog 27 #[.pointer (some p)] .returning w fun e u' w' => e = .returned (.tuple #[]) ∧ u' = .returning ∧ w' = w := by
  refine callsD_of_wpS Tryz.func27 rfl fun c₀ cs hu => ?_
  apply wpS_seq
  apply wpS_region
  simp [wpOpsS, go_sem, recoverD, hu, Tryz.ntmps27, Exit.thenS]
  apply wpS_seq
  apply wpS_region
  simp [wpOpsS, go_sem, Exit.thenS]
  refine wpS_cond (t := false) (by simp [Act.eval, Array.replicate]) ?_
  simp only [Bool.false_eq_true, if_false]
  refine wpS_of_wp (wp_skip ?_)
  cases c₀
  simp_all [bodyPostS, results, Tryz.results27]
set_option maxHeartbeats 1000000 in
theorem lsize_any (w : World) (ao : Option Addr) (c : Nat) (l : List Ent) (hl : ERow w ao l) (hn : lSize l ≤ 1000000000) :
    Calls Tryz.prog 87 #[.slice ao l.length c] w fun e w' => e = .returned (.int .i64 (lSize l : Nat)) ∧ Below w.heap.size w w' := by
  have HC : Hid (∀ W, Below w.heap.size w W → ∀ k (hk : k < l.length), ∃ g off, ao = some ⟨g, off, none⟩ ∧ W.cell? ⟨g, off + k * 2, none⟩ = some (.string (l[k]'hk).1) ∧ W.cell? ⟨g, off + k * 2 + 1, none⟩ = some (.string (l[k]'hk).2)) := fun W hB k hk => (hl.made hB).at hk
  have HS : Hid (∀ k (hk : k < l.length), lSize (l.take (k + 1)) = lSize (l.take k) + (2 + (l[k]'hk).1.size + (l[k]'hk).2.size) ∧ lSize (l.take (k + 1)) ≤ 1000000000) := fun k hk => by
    have h1 := lSum_succ l hk
    have h2 := lSum_take_le l (k + 1)
    unfold lSize at hn ⊢
    omega
  have HL := lSum_len l
  have hln : l.length ≤ 1000000000 := by unfold lSize at hn; omega
  have H0 : Hid (lSize (l.take 0) = 2) := by show _ = _; rfl
  have HE : Hid (lSize (l.take l.length) = lSize l) := by show _ = _; rw [List.take_length]
  clear hl HL hn
  obtain ⟨m, HM⟩ : ∃ m, Hid (l.length = m) := ⟨_, Lib.hid rfl⟩
  rw [HM.out] at hln ⊢
  generalize lSize l = tot at *
  go_enter Tryz.func87, Tryz.ntmps87
  go_wp2
  go_loopw [3, 8] (fun u v wr => ∃ (k s : Nat), u = .int .i64 s ∧ v = .int .i64 k ∧ k ≤ m ∧ s ≤ 1000000000 ∧ Hid (lSize (l.take k) = s) ∧ Below w.heap.size w wr) (fun _ v _ => m - (intOf v).toNat)
  case atStart => exact ⟨0, 2, rfl, rfl, by omega, by omega, H0, Below.refl _ _⟩
  case round =>
    obtain ⟨k, s, rfl, rfl, hk, hs, HK, hB⟩ := hrel
    by_cases hlt : k < m
    · have hlt' : k < l.length := by rw [HM.out]; exact hlt
      obtain ⟨g, off, rfl, hc0, hc1⟩ := HC.out wr hB k hlt'
      obtain ⟨e1, e2⟩ := HS.out k hlt'
      rw [HK.out] at e1
      have h2 : s + (2 + l[k].1.size + l[k].2.size) ≤ 1000000000 := by omega
      have HK2 : Hid (lSize (l.take (k + 1)) = s + (2 + l[k].1.size + l[k].2.size)) := e1
      clear e1 e2
      generalize l[k].1 = x at *
      generalize l[k].2 = y at *
      go_wp2
      go_roundw
      case rel => exact ⟨k + 1, s + (2 + x.size + y.size), by first | rfl | (congr 1; done) | (congr 1; go_num), by go_num, by omega, by omega, HK2, hB.alloc (by have := hB.size; omega) _⟩
      case measure => simp [intOf]; omega
    · obtain rfl : k = m := by omega
      have hst : s = tot := by have := HK.out; rw [← HM.out, HE.out] at this; omega
      subst hst
      go_wp2
      go_ret
      exact ⟨rfl, hB⟩
end Go.Proofs.YtmgcaohpbaiiaaaGreatDoor
