/- The reference's Rows, Pages, First: the program's own. -/
import Derived.Test.YtdoankamaobkoaaGreatDoorSWake
import Derived.Test.YtdoankamaobkoaaGreatDoorKind
set_option linter.unusedSimpArgs false
set_option linter.unusedVariables false
namespace Go.Proofs.YtdoankamaobkoaaGreatDoor
open Go.RowKit Go.Maps Go.Shelf

theorem rows_any (m : Int) (w : World) (h0 : 0 ≤ m) (h1 : m ≤ 4096) :
    Calls Tryz.prog 32 #[.int .i64 m] w fun e w' => e = .returned (.int .i64 (jBlocks m)) ∧ w = w' := by
  by_cases hz : 0 < m % 128
  · have e : jBlocks m = m / 128 + 1 := by unfold jBlocks; omega
    rw [e]
    clear e
    go_enter Tryz.func32, Tryz.ntmps32
    go_wp2
    go_ret
    exact ⟨rfl, rfl⟩
  · have e : jBlocks m = m / 128 := by unfold jBlocks; omega
    rw [e]
    have hz' : m % 128 ≤ 0 := by omega
    clear e hz
    go_enter Tryz.func32, Tryz.ntmps32
    go_wp2
    go_ret
    exact ⟨rfl, rfl⟩
theorem jBlocks_mono {a b : Int} (h : a ≤ b) : jBlocks a ≤ jBlocks b := by unfold jBlocks; omega
set_option maxHeartbeats 400000 in
theorem rpages_any (n : Int) (w : World) (h1 : 64 ≤ n) (h2 : n ≤ 2048) :
    Calls Tryz.prog 12 #[.int .i64 n] w fun e w' => e = .returned (.int .i64 (jPages n)) ∧ w = w' := by
  have hsp := jPages_spec h1 h2
  have hbd := jPages_bd n
  have HMX : Hid (∀ m : Nat, 2 * (m : Int) + 1 + jBlocks m ≤ n → (m : Int) ≤ jPages n) := fun m hm => by
    have hb := jBlocks_le (m := (m : Int)) (by omega)
    unfold jPages
    rw [if_neg (by omega)]
    have := jDown_ge hm (k := ((n - 1) / 2).toNat) (by omega)
    omega
  have HSP : Hid (∀ m : Nat, (m : Int) ≤ jPages n → 2 * (m : Int) + 1 + jBlocks m ≤ n) := fun m hm => by
    have := jBlocks_mono hm
    omega
  clear hsp
  generalize jPages n = pg at *
  go_enter Tryz.func12, Tryz.ntmps12
  go_wp2
  go_loop [3] (fun m => ∃ k : Nat, (k : Int) ≤ pg ∧ m = .int .i64 k) (fun m => (pg - intOf m).toNat)
  case atStart => exact ⟨0, by omega, rfl⟩
  case round =>
    obtain ⟨k, hk, rfl⟩ := hrel
    have hb := jBlocks_le (m := (k : Int) + 1) (by omega)
    by_cases hlt : (k : Int) < pg
    · have hle : 2 * ((k : Int) + 1) + 1 + jBlocks ((k : Int) + 1) ≤ n := HSP.out (k + 1) (by omega)
      go_wp2_with (go_at_call 32; refine (rows_any _ _ (by omega) (by omega)).mono ?_; rintro e w' ⟨rfl, rfl⟩)
      go_round
      case rel => exact ⟨k + 1, by omega, by go_num⟩
      case measure => simp [intOf]; omega
    · have hgt : n < 2 * ((k : Int) + 1) + 1 + jBlocks ((k : Int) + 1) := by
        by_cases h : 2 * ((k : Int) + 1) + 1 + jBlocks ((k : Int) + 1) ≤ n
        · have := HMX.out (k + 1) h; omega
        · omega
      obtain rfl : pg = (k : Int) := by omega
      go_wp2_with (go_at_call 32; refine (rows_any _ _ (by omega) (by omega)).mono ?_; rintro e w' ⟨rfl, rfl⟩)
      go_ret
      exact ⟨rfl, rfl⟩
theorem rfirst_any (n : Int) (w : World) (h1 : 64 ≤ n) (h2 : n ≤ 2048) :
    Calls Tryz.prog 10 #[.int .i64 n] w fun e w' => e = .returned (.int .i64 (jFirst n)) ∧ w = w' := by
  have hP := rpages_any n w h1 h2
  have hm := pages_many h1 h2
  have hbd := jPages_bd n
  have hb := jBlocks_le hbd.1
  rw [first_eq h1 h2]
  generalize jPages n = pg at *
  have hpz : (pg == 0) = false := by simp; omega
  go_enter Tryz.func10, Tryz.ntmps10
  go_wp2_with (first
    | (go_at_call 12; refine hP.mono ?_; rintro e w' ⟨rfl, rfl⟩)
    | (go_at_call 32; refine (rows_any _ _ (by omega) (by omega)).mono ?_; rintro e w' ⟨rfl, rfl⟩))
  go_ret
  exact ⟨rfl, rfl⟩
/-- of so many blocks -/
def spSize (k : Int) : Int := 64 + kindI k 40
theorem spSize_bd (k : Int) : 64 ≤ spSize k ∧ spSize k ≤ 103 := by have := kindI_bd (k := k) (n := 40) (by omega); unfold spSize; omega
theorem size_any (k : Int) (w : World) (hk : (Lit.int .i64 k).wf = true) :
    Calls Tryz.prog 11 #[.int .i64 k] w fun e w' => e = .returned (.int .i64 (spSize k)) ∧ w = w' := by
  have hbd := kindI_bd (k := k) (n := 40) (by omega)
  have hK := kind_any k 40 w hk (by omega) (by omega)
  unfold spSize
  generalize kindI k 40 = q at *
  go_enter Tryz.func11, Tryz.ntmps11
  go_wp2_with (go_at_call 30; refine hK.mono ?_; rintro e w' ⟨rfl, rfl⟩)
  go_ret
  exact ⟨rfl, rfl⟩
end Go.Proofs.YtdoankamaobkoaaGreatDoor
