/- The journal's numbers, and the disk's Len, may and Read: what each call comes to. -/
import Derived.Test.YtdoankamaobkoaaGreatDoorRep
set_option linter.unusedSimpArgs false
set_option linter.unusedVariables false
namespace Go.Proofs.YtdoankamaobkoaaGreatDoor
open Go.RowKit Go.Maps

/-! ### the disk -/
theorem len_any {w : World} {d bb : Nat} {lg : Value} {S : Dsk} (h : DiskAt w d bb lg S) :
    Calls Tryz.prog 49 #[.pointer (some ⟨d, 0, none⟩)] w fun e w' => e = .returned (.int .i64 S.blocks.length) ∧ w = w' := by
  have c0 := cell_of h.d 0
  simp at c0
  clear h
  go_enter Tryz.func49, Tryz.ntmps49
  go_wp2
  go_ret
  exact ⟨rfl, rfl⟩

set_option maxHeartbeats 400000 in
theorem may_any {w : World} {d bb : Nat} {lg : Value} {S : Dsk} (h : DiskAt w d bb lg S) (i : Int) :
    Calls Tryz.prog 105 #[.pointer (some ⟨d, 0, none⟩), .int .i64 i] w fun e w' => e = .returned (.int .i64 (S.may i)) ∧ w = w' := by
  have c0 := cell_of h.d 0
  have c4 := cell_of h.d 4
  simp at c0 c4
  clear h
  unfold Dsk.may Dsk.n
  generalize S.blocks.length = n at *
  cases hd : S.down
  · rw [hd] at c4; clear hd
    by_cases h0 : i < 0
    · rw [if_neg (by simp), if_pos (by omega)]
      go_enter Tryz.func105, Tryz.ntmps105
      go_wp2
      go_ret
      exact ⟨rfl, rfl⟩
    · by_cases h1 : (n : Int) ≤ i
      · rw [if_neg (by simp), if_pos (by omega)]
        go_enter Tryz.func105, Tryz.ntmps105
        go_wp2
        go_ret
        exact ⟨rfl, rfl⟩
      · rw [if_neg (by simp), if_neg (by omega)]
        have h0' : 0 ≤ i := by omega
        have h1' : i < (n : Int) := by omega
        clear h0 h1
        go_enter Tryz.func105, Tryz.ntmps105
        go_wp2
        go_ret
        exact ⟨rfl, rfl⟩
  · rw [hd] at c4; clear hd
    rw [if_pos rfl]
    go_enter Tryz.func105, Tryz.ntmps105
    go_wp2
    go_ret
    exact ⟨rfl, rfl⟩

set_option maxHeartbeats 400000 in
theorem read_any {w : World} {d bb : Nat} {lg : Value} {S : Dsk} (h : DiskAt w d bb lg S) (i : Int) :
    Calls Tryz.prog 80 #[.pointer (some ⟨d, 0, none⟩), .int .i64 i] w fun e w' => e = .returned (.tuple #[.string (S.read i).1, .int .i64 (S.read i).2]) ∧ w = w' := by
  have hM := may_any h i
  have c0 := cell_of h.d 0
  have hb := fun k => cell_of h.bb k
  simp at c0 hb
  clear h
  by_cases h0 : S.may i = 0
  · have hr : S.read i = (S.blocks.getD i.toNat ⟨#[]⟩, 0) := by unfold Dsk.read; rw [if_pos h0]
    have hlt : 0 ≤ i ∧ i < S.blocks.length := by
      unfold Dsk.may Dsk.n at h0
      split at h0
      · simp at h0
      · split at h0
        · simp at h0
        · omega
    rw [hr]
    rw [h0] at hM
    obtain ⟨k, rfl⟩ := Int.eq_ofNat_of_zero_le hlt.1
    have hk : k < S.blocks.length := by omega
    have hc : w.cell? ⟨bb, k, none⟩ = some (.string (S.blocks.getD k ⟨#[]⟩)) := by
      rw [hb k]; simp [List.getD, List.getElem?_eq_getElem hk]
    clear hb h0 hr hlt
    rw [Int.toNat_natCast]
    generalize S.blocks.getD k ⟨#[]⟩ = s at *
    generalize S.blocks.length = n at *
    go_enter Tryz.func80, Tryz.ntmps80
    go_wp2_with (go_at_call 105; refine hM.mono ?_; rintro e w' ⟨rfl, rfl⟩)
    go_ret2
    exact ⟨rfl, rfl⟩
  · have hr : S.read i = (⟨#[]⟩, S.may i) := by unfold Dsk.read; rw [if_neg h0]
    rw [hr]
    have hb' : (S.may i != 0) = true := by simpa using h0
    clear hr h0 hb c0
    generalize S.may i = m at *
    go_enter Tryz.func80, Tryz.ntmps80
    go_wp2_with (go_at_call 105; refine hM.mono ?_; rintro e w' ⟨rfl, rfl⟩)
    go_ret2
    exact ⟨rfl, rfl⟩

/-! ### the journal's numbers -/
theorem blocks_any (m : Int) (w : World) (h0 : 0 ≤ m) (h1 : m ≤ 4096) :
    Calls Tryz.prog 94 #[.int .i64 m] w fun e w' => e = .returned (.int .i64 (jBlocks m)) ∧ w = w' := by
  unfold jBlocks
  go_enter Tryz.func94, Tryz.ntmps94
  go_wp2
  go_ret
  refine ⟨?_, rfl⟩
  simp
  omega

theorem jBlocks_le {m : Int} (h0 : 0 ≤ m) : 0 ≤ jBlocks m ∧ jBlocks m ≤ m + 127 := by unfold jBlocks; omega
theorem jDown_more {n : Int} {k : Nat} (h0 : 0 < k) (h : 2 * (k : Int) + 1 + jBlocks k > n) : jDown n k = jDown n (k - 1) := by
  cases k with
  | zero => omega
  | succ m => simp only [jDown]; rw [if_pos (by simpa using h)]; rfl
theorem jDown_stop {n : Int} {k : Nat} (hn : 1 ≤ n) (h : ¬ 2 * (k : Int) + 1 + jBlocks k > n) : jDown n k = k := by
  cases k with
  | zero => rfl
  | succ m => simp only [jDown]; rw [if_neg (by simpa using h)]
theorem jDown_le (n : Int) : ∀ k, jDown n k ≤ k
  | 0 => Nat.le_refl _
  | m + 1 => by simp only [jDown]; split; exact Nat.le_succ_of_le (jDown_le n m); exact Nat.le_refl _
theorem jPages_bd (n : Int) : 0 ≤ jPages n ∧ jPages n ≤ 1024 := by
  unfold jPages
  split
  · simp
  · have := jDown_le n ((n - 1) / 2).toNat; omega

set_option maxHeartbeats 400000 in
theorem pages_any (n : Int) (w : World) :
    Calls Tryz.prog 70 #[.int .i64 n] w fun e w' => e = .returned (.int .i64 (jPages n)) ∧ w = w' := by
  by_cases h : n < 64
  · rw [show jPages n = 0 from if_pos (.inl h)]
    go_enter Tryz.func70, Tryz.ntmps70
    go_wp2
    go_ret
    exact ⟨rfl, rfl⟩
  · by_cases h' : 2048 < n
    · rw [show jPages n = 0 from if_pos (.inr h')]
      go_enter Tryz.func70, Tryz.ntmps70
      go_wp2
      go_ret
      exact ⟨rfl, rfl⟩
    · have h0 : 64 ≤ n := by omega
      have h1 : n ≤ 2048 := by omega
      clear h h'
      have HR : Hid (jPages n = jDown n ((n - 1) / 2).toNat) := by show _ = _; unfold jPages; rw [if_neg (by omega)]
      rw [HR.out]
      obtain ⟨N, hN⟩ : ∃ N, N = jDown n ((n - 1) / 2).toNat := ⟨_, rfl⟩
      rw [← hN]
      have HN : Hid (jDown n ((n - 1) / 2).toNat = N) := hN.symm
      clear hN HR
      go_enter Tryz.func70, Tryz.ntmps70
      go_wp2
      go_loop [3] (fun m => ∃ k : Nat, (k : Int) ≤ (n - 1) / 2 ∧ Hid (jDown n k = N) ∧ m = .int .i64 k) (fun m => (intOf m).toNat)
      case atStart => exact ⟨((n - 1) / 2).toNat, by omega, HN, by rw [Int.toNat_of_nonneg (by omega)]⟩
      case round =>
        obtain ⟨k, hk, HK, rfl⟩ := hrel
        have hb := jBlocks_le (m := (k : Int)) (by omega)
        by_cases hc : 2 * (k : Int) + 1 + jBlocks k > n
        · have hk0 : 0 < k := by
            have : jBlocks 0 = 0 := by decide
            rcases Nat.eq_zero_or_pos k with rfl | h
            · simp [this] at hc; omega
            · exact h
          have HS : Hid (jDown n (k - 1 : Nat) = N) := by show _ = _; rw [← jDown_more hk0 hc]; exact HK.out
          clear HK
          go_wp2_with (go_at_call 94; refine (blocks_any _ _ (by omega) (by omega)).mono ?_; rintro e w' ⟨rfl, rfl⟩)
          go_round
          case rel => exact ⟨k - 1, by omega, HS, by rw [Int.ofNat_sub hk0]; rfl⟩
          case measure => simp [intOf]; omega
        · have hs := jDown_stop (n := n) (k := k) (by omega) hc
          have HE : Hid (k = N) := by have := HK.out; rw [hs] at this; exact this
          clear HK hs
          go_wp2_with (go_at_call 94; refine (blocks_any _ _ (by omega) (by omega)).mono ?_; rintro e w' ⟨rfl, rfl⟩)
          go_ret
          exact ⟨by rw [HE.out]; rfl, rfl⟩

theorem copies_any (n : Int) (w : World) :
    Calls Tryz.prog 93 #[.int .i64 n] w fun e w' => e = .returned (.int .i64 (2 + jBlocks (jPages n))) ∧ w = w' := by
  have hb := jPages_bd n
  have hB := jBlocks_le hb.1
  go_enter Tryz.func93, Tryz.ntmps93
  go_wp2_with (first
    | (go_at_call 70; refine (pages_any _ _).mono ?_; rintro e w' ⟨rfl, rfl⟩)
    | (go_at_call 94; refine (blocks_any _ _ (by omega) (by omega)).mono ?_; rintro e w' ⟨rfl, rfl⟩))
  go_ret
  exact ⟨rfl, rfl⟩

theorem first_any (n : Int) (w : World) :
    Calls Tryz.prog 69 #[.int .i64 n] w fun e w' => e = .returned (.int .i64 (jFirst n)) ∧ w = w' := by
  have hb := jPages_bd n
  have hB := jBlocks_le hb.1
  by_cases h : jPages n = 0
  · rw [show jFirst n = 0 from if_pos h]
    have HP : (jPages n == 0) = true := by simpa using h
    clear h
    go_enter Tryz.func69, Tryz.ntmps69
    go_wp2_with (first
      | (go_at_call 70; refine (pages_any _ _).mono ?_; rintro e w' ⟨rfl, rfl⟩)
      | (go_at_call 93; refine (copies_any _ _).mono ?_; rintro e w' ⟨rfl, rfl⟩))
    go_ret
    exact ⟨rfl, rfl⟩
  · rw [show jFirst n = 2 + jBlocks (jPages n) + jPages n from if_neg h]
    have HP : (jPages n == 0) = false := by simpa using h
    clear h
    go_enter Tryz.func69, Tryz.ntmps69
    go_wp2_with (first
      | (go_at_call 70; refine (pages_any _ _).mono ?_; rintro e w' ⟨rfl, rfl⟩)
      | (go_at_call 93; refine (copies_any _ _).mono ?_; rintro e w' ⟨rfl, rfl⟩))
    go_ret
    exact ⟨rfl, rfl⟩
theorem jFirst_bd (n : Int) : 0 ≤ jFirst n ∧ jFirst n ≤ 4096 := by
  have hb := jPages_bd n
  have hB := jBlocks_le hb.1
  unfold jFirst
  split <;> omega
end Go.Proofs.YtdoankamaobkoaaGreatDoor
