/- The reference's numbers, sums and pages. -/
import Derived.Test.YtdoankamaobkoaaGreatQDisk
set_option linter.unusedSimpArgs false
set_option linter.unusedVariables false
namespace Go.Proofs.YtdoankamaobkoaaGreat
open Go.RowKit Go.Maps Go.Shelf

theorem jDown_ge {n : Int} {m : Nat} (hm : 2 * (m : Int) + 1 + jBlocks m ≤ n) : ∀ {k : Nat}, m ≤ k → m ≤ jDown n k
  | 0, h => by omega
  | k + 1, h => by
    unfold jDown
    split
    · rename_i hk
      rcases Nat.lt_or_ge k m with hlt | hge
      · have : m = k + 1 := by omega
        subst this
        exfalso
        simp only [Int.natCast_add, Int.natCast_one, Int.cast_ofNat_Int] at hm hk
        omega
      · exact jDown_ge hm hge
    · exact h
theorem pages_many {n : Int} (h1 : 64 ≤ n) (h2 : n ≤ 2048) : 31 ≤ jPages n := by
  unfold jPages
  rw [if_neg (by omega)]
  have e : jBlocks 31 = 1 := by decide
  have h3 : 2 * ((31 : Nat) : Int) + 1 + jBlocks ((31 : Nat) : Int) ≤ n := by
    show 2 * (31 : Int) + 1 + jBlocks (31 : Int) ≤ n
    omega
  have := jDown_ge (n := n) (m := 31) h3 (k := ((n - 1) / 2).toNat) (by omega)
  omega
theorem first_eq {n : Int} (h1 : 64 ≤ n) (h2 : n ≤ 2048) : jFirst n = 2 + jBlocks (jPages n) + jPages n := by
  have := pages_many h1 h2
  unfold jFirst; rw [if_neg (by omega)]
theorem rows_any (m : Int) (w : World) (h0 : 0 ≤ m) (h1 : m ≤ 4096) :
    Calls Tryz.prog 127 #[.int .i64 m] w fun e w' => e = .returned (.int .i64 (jBlocks m)) ∧ w = w' := by
  by_cases hz : 0 < m % 128
  · have e : jBlocks m = m / 128 + 1 := by unfold jBlocks; omega
    rw [e]
    clear e
    go_enter Tryz.func127, Tryz.ntmps127
    go_wp2
    go_ret
    exact ⟨rfl, rfl⟩
  · have e : jBlocks m = m / 128 := by unfold jBlocks; omega
    rw [e]
    have hz' : m % 128 ≤ 0 := by omega
    clear e hz
    go_enter Tryz.func127, Tryz.ntmps127
    go_wp2
    go_ret
    exact ⟨rfl, rfl⟩
theorem jBlocks_mono {a b : Int} (h : a ≤ b) : jBlocks a ≤ jBlocks b := by unfold jBlocks; omega
set_option maxHeartbeats 400000 in
theorem rpages_any (n : Int) (w : World) (h1 : 64 ≤ n) (h2 : n ≤ 2048) :
    Calls Tryz.prog 98 #[.int .i64 n] w fun e w' => e = .returned (.int .i64 (jPages n)) ∧ w = w' := by
  have hsp := jPages_spec h1 h2
  have hbd := jPages_bd n
  have HMX : Hid (∀ m : Nat, 2 * (m : Int) + 1 + jBlocks m ≤ n → (m : Int) ≤ jPages n) := fun m hm => by
    have hb := jBlocks_le (m := (m : Int)) (by omega)
    unfold jPages
    rw [if_neg (by omega)]
    have := jDown_ge hm (k := ((n - 1) / 2).toNat) (by omega)
    omega
  have HSP : Hid (∀ m : Nat, (m : Int) ≤ jPages n → 2 * (m : Int) + 1 + jBlocks m ≤ n) := fun m hm => by
    have := jBlocks_mono hm
    omega
  clear hsp
  generalize jPages n = pg at *
  go_enter Tryz.func98, Tryz.ntmps98
  go_wp2
  go_loop [3] (fun m => ∃ k : Nat, (k : Int) ≤ pg ∧ m = .int .i64 k) (fun m => (pg - intOf m).toNat)
  case atStart => exact ⟨0, by omega, rfl⟩
  case round =>
    obtain ⟨k, hk, rfl⟩ := hrel
    have hb := jBlocks_le (m := (k : Int) + 1) (by omega)
    by_cases hlt : (k : Int) < pg
    · have hle : 2 * ((k : Int) + 1) + 1 + jBlocks ((k : Int) + 1) ≤ n := HSP.out (k + 1) (by omega)
      go_wp2_with (go_at_call 127; refine (rows_any _ _ (by omega) (by omega)).mono ?_; rintro e w' ⟨rfl, rfl⟩)
      go_round
      case rel => exact ⟨k + 1, by omega, by go_num⟩
      case measure => simp [intOf]; omega
    · have hgt : n < 2 * ((k : Int) + 1) + 1 + jBlocks ((k : Int) + 1) := by
        by_cases h : 2 * ((k : Int) + 1) + 1 + jBlocks ((k : Int) + 1) ≤ n
        · have := HMX.out (k + 1) h; omega
        · omega
      obtain rfl : pg = (k : Int) := by omega
      go_wp2_with (go_at_call 127; refine (rows_any _ _ (by omega) (by omega)).mono ?_; rintro e w' ⟨rfl, rfl⟩)
      go_ret
      exact ⟨rfl, rfl⟩
theorem rfirst_any (n : Int) (w : World) (h1 : 64 ≤ n) (h2 : n ≤ 2048) :
    Calls Tryz.prog 97 #[.int .i64 n] w fun e w' => e = .returned (.int .i64 (jFirst n)) ∧ w = w' := by
  have hP := rpages_any n w h1 h2
  have hm := pages_many h1 h2
  have hbd := jPages_bd n
  have hb := jBlocks_le hbd.1
  rw [first_eq h1 h2]
  generalize jPages n = pg at *
  have hpz : (pg == 0) = false := by simp; omega
  go_enter Tryz.func97, Tryz.ntmps97
  go_wp2_with (first
    | (go_at_call 98; refine hP.mono ?_; rintro e w' ⟨rfl, rfl⟩)
    | (go_at_call 127; refine (rows_any _ _ (by omega) (by omega)).mono ?_; rintro e w' ⟨rfl, rfl⟩))
  go_ret
  exact ⟨rfl, rfl⟩

set_option maxHeartbeats 400000 in
set_option maxRecDepth 100000 in
theorem nfits_any (n k : Nat) (w : World) (hn : n < 256 ^ k) (hk1 : 1 ≤ k) (hk2 : k ≤ 8) :
    Calls Tryz.prog 148 #[.int .u64 n, .int .i64 k] w fun e w' => e = .returned (.bool true) ∧ w = w' := by
  have hbig : n < 18446744073709551616 := Nat.lt_of_lt_of_le hn (Nat.le_trans (Nat.pow_le_pow_right (by omega) hk2) (by decide))
  have HN : Hid (n / 256 ^ k = 0) := Nat.div_eq_of_lt hn
  have HS : Hid (∀ j, n / 256 ^ j / 256 = n / 256 ^ (j + 1)) := fun j => by rw [Nat.div_div_eq_div_mul, Nat.pow_succ]
  have HL : Hid (∀ j, n / 256 ^ j ≤ n) := fun j => Nat.div_le_self _ _
  have H0 : Hid (n / 256 ^ 0 = n) := by show _ = _; simp
  clear hn
  go_enter Tryz.func148, Tryz.ntmps148
  go_wp2
  go_loop [0, 5] (fun va vb => ∃ j m : Nat, va = .int .u64 m ∧ vb = .int .i64 j ∧ j ≤ k ∧ m ≤ n ∧ Hid (n / 256 ^ j = m)) (fun _ vb => k - (intOf vb).toNat)
  case atStart => exact ⟨0, n, rfl, rfl, by omega, by omega, H0⟩
  case round =>
    obtain ⟨j, m, rfl, rfl, hj, hm, HJ⟩ := hrel
    by_cases hlt : j < k
    · have HJ2 : Hid (n / 256 ^ (j + 1) = m / 256) := by show _ = _; rw [← HJ.out]; exact (HS.out j).symm
      have hq : Hid (((m : Int) / 256) = ((m / 256 : Nat) : Int)) := by show _ = _; simp
      have hle : m / 256 ≤ n := by omega
      clear HS HJ HL H0 HN
      go_wp2
      go_round
      case rel => exact ⟨j + 1, m / 256, by rw [← hq.out], by go_num, by omega, hle, HJ2⟩
      case measure => simp [intOf]; omega
    · obtain rfl : j = k := by omega
      obtain rfl : m = 0 := by rw [← HJ.out]; exact HN.out
      go_wp2
      go_ret
      exact ⟨rfl, rfl⟩
theorem putB_more (n j : Nat) : (⟨#[UInt8.ofNat (n / 256 ^ j)]⟩ : ByteArray) ++ putB n j = putB n (j + 1) := by
  apply ByteArray.ext
  rw [ByteArray.data_append]
  unfold putB
  simp only
  rw [← Array.toList_inj]
  simp only [Array.toList_append]
  rw [List.range_succ_eq_map, List.map_cons, List.map_map]
  have e1 : (2 : Nat) ^ (8 * (j + 1 - 1 - 0)) = 256 ^ j := by rw [show j + 1 - 1 - 0 = j by omega, Nat.pow_mul]
  rw [e1]
  simp only [List.singleton_append, List.cons.injEq, true_and]
  refine List.map_congr_left fun p hp => ?_
  simp only [Function.comp]
  rw [show j + 1 - 1 - (p + 1) = j - 1 - p by omega]
theorem putB_zero (n : Nat) : putB n 0 = ⟨#[]⟩ := rfl
theorem u8_of (m : Nat) : ((UInt8.ofNat m).toNat : Int) = (m : Int) % 256 := by simp
set_option maxRecDepth 100000 in
set_option maxHeartbeats 1000000 in
theorem nput_any (n k : Nat) (w : World) (hn : n < 256 ^ k) (hk1 : 1 ≤ k) (hk2 : k ≤ 8) :
    Calls Tryz.prog 143 #[.int .u64 n, .int .i64 k] w fun e w' => e = .returned (.tuple #[.string (putB n k), .int .i64 0]) ∧ Below w.heap.size w w' := by
  have hfit := nfits_any n k w hn hk1 hk2
  have hbig : n < 18446744073709551616 := Nat.lt_of_lt_of_le hn (Nat.le_trans (Nat.pow_le_pow_right (by omega) hk2) (by decide))
  have HS : Hid (∀ j, n / 256 ^ j / 256 = n / 256 ^ (j + 1)) := fun j => by rw [Nat.div_div_eq_div_mul, Nat.pow_succ]
  have HL : Hid (∀ j, n / 256 ^ j ≤ n) := fun j => Nat.div_le_self _ _
  have H0 : Hid (n / 256 ^ 0 = n) := by show _ = _; simp
  clear hn
  go_enter Tryz.func143, Tryz.ntmps143
  go_wp2_with (go_at_call 148; refine hfit.mono ?_; rintro e w' ⟨rfl, rfl⟩)
  go_loopw [0, 6, 7] (fun va vs vb wr => ∃ (j m : Nat) (s : ByteArray), va = .int .u64 m ∧ vs = .string s ∧ vb = .int .i64 j ∧ j ≤ k ∧ m ≤ n ∧ s.size ≤ 8 ∧ Hid (n / 256 ^ j = m) ∧ Hid (s = putB n j) ∧ Below w.heap.size w wr) (fun _ _ vb _ => k - (intOf vb).toNat)
  case atStart => exact ⟨0, n, ⟨#[]⟩, rfl, rfl, rfl, by omega, by omega, by decide, H0, rfl, Below.refl _ _⟩
  case round =>
    obtain ⟨j, m, s, rfl, rfl, rfl, hj, hm, hs, HJ, HP, hB⟩ := hrel
    clear hfit H0
    by_cases hlt : j < k
    · have HJ2 : Hid (n / 256 ^ (j + 1) = m / 256) := by show _ = _; rw [← HJ.out]; exact (HS.out j).symm
      have hq : Hid (((m : Int) / 256) = ((m / 256 : Nat) : Int)) := by show _ = _; simp
      have hle : m / 256 ≤ n := by omega
      have hcv := run_convert_bytes_back (P := Tryz.prog) (wr.alloc (.cells #[.int .u8 ((m : Int) % 256)] 5)) 100 9 5 ⟨wr.heap.size, 0, none⟩ 1 [UInt8.ofNat m] Tryz.underlying100 Tryz.underlying5 Tryz.underlying9 (by
        intro i hi
        obtain rfl : i = 0 := by simpa using hi
        rw [add_none, cell_new]
        simp)
      simp only [List.length_singleton] at hcv
      have HSZ : Hid (((⟨#[UInt8.ofNat m]⟩ : ByteArray) ++ s) = putB n (j + 1)) := by
        show _ = _
        rw [HP.out, ← putB_more, HJ.out]
      have hsz : (putB n (j + 1)).size = j + 1 := putB_size _ _
      clear HS HJ HL HP
      go_wp2
      go_roundw
      case rel => exact ⟨j + 1, m / 256, _, by rw [← hq.out], rfl, by go_num, by omega, hle, by rw [HSZ.out, hsz]; omega, HJ2, HSZ.out, hB.alloc hB.size _⟩
      case measure => simp [intOf]; omega
    · obtain rfl : j = k := by omega
      rw [HP.out]
      go_wp2
      go_ret2
      exact ⟨rfl, hB⟩
set_option maxRecDepth 100000 in
set_option maxHeartbeats 1000000 in
theorem nmore_any (sum : Nat) (s : ByteArray) (w : World) (hsum : sum < 4294967296) (hs : s.size ≤ 140737488355328) :
    Calls Tryz.prog 145 #[.int .u32 sum, .string s] w fun e w' => e = .returned (.int .u32 (mixMore sum s)) ∧ w = w' := by
  obtain ⟨q, hq⟩ : ∃ q, q = s.data.toList.foldl mixStep (sum % 65536 % 65521, sum / 65536 % 65521) := ⟨_, rfl⟩
  have hqb := mixFold_bd s.data.toList (sum % 65536 % 65521, sum / 65536 % 65521) (Nat.mod_lt _ (by decide)) (Nat.mod_lt _ (by decide))
  rw [← hq] at hqb
  have hm : mixMore sum s = q.2 * 65536 + q.1 := by rw [hq]; rfl
  rw [hm]
  obtain ⟨x, y⟩ := q
  obtain ⟨hx, hy⟩ := hqb
  have HQ := Lib.hid hq.symm
  simp only at hx hy
  clear hm hq
  go_enter Tryz.func145, Tryz.ntmps145
  go_wp2
  go_loop [5, 6, 7] (fun va vb vj => ∃ (j a b : Nat), va = .int .u64 a ∧ vb = .int .u64 b ∧ vj = .int .i64 j ∧ j ≤ s.size ∧ a < 65521 ∧ b < 65521 ∧ Hid ((s.data.toList.drop j).foldl mixStep (a, b) = (x, y))) (fun _ _ vj => s.size - (intOf vj).toNat)
  case atStart => exact ⟨0, sum % 65536 % 65521, sum / 65536 % 65521, congrArg _ (by omega), congrArg _ (by omega), rfl, by omega, by omega, by omega, HQ⟩
  case round =>
    obtain ⟨j, a, b, rfl, rfl, rfl, hj, ha, hb, HF⟩ := hrel
    clear HQ
    by_cases hlt : j < s.size
    · have hc : s[j].toNat < 256 := UInt8.toNat_lt _
      have HS : Hid ((s.data.toList.drop (j + 1)).foldl mixStep (mixStep (a, b) s[j]) = (x, y)) := by
        show _ = _
        rw [← HF.out, List.drop_eq_getElem_cons (i := j) (l := s.data.toList) (by simp; exact hlt), List.foldl_cons]
        rfl
      have hst : mixStep (a, b) s[j] = ((a + s[j].toNat) % 65521, (b + (a + s[j].toNat) % 65521) % 65521) := rfl
      rw [hst] at HS
      clear HF hst
      go_wp2
      go_round
      case rel => exact ⟨j + 1, (a + s[j].toNat) % 65521, (b + (a + s[j].toNat) % 65521) % 65521, congrArg _ (by omega), congrArg _ (by omega), rfl, by omega, by omega, by omega, HS⟩
      case measure => simp [intOf]; omega
    · obtain rfl : j = s.size := by omega
      have he : (a, b) = (x, y) := by
        have := HF.out
        rw [List.drop_of_length_le (by show s.data.toList.length ≤ s.data.size; simp)] at this
        exact this
      simp only [Prod.mk.injEq] at he
      obtain ⟨rfl, rfl⟩ := he
      clear HF
      go_wp2
      go_ret
      exact ⟨congrArg (fun z => Ending.returned (Value.int IntKind.u32 z)) (show (b : Int) * 65536 + a = ((b * 65536 + a : Nat) : Int) by omega), rfl⟩
theorem nsum_any (w : World) : Calls Tryz.prog 144 #[.string ⟨#[]⟩] w fun e w' => e = .returned (.int .u32 1) ∧ w = w' := by
  have h := nmore_any 1 ⟨#[]⟩ w (by omega) (by decide)
  rw [show mixMore 1 ⟨#[]⟩ = 1 from rfl] at h
  go_enter Tryz.func144, Tryz.ntmps144
  go_wp2_with (go_at_call 145; refine h.mono ?_; rintro e w' ⟨rfl, rfl⟩)
  go_ret
  exact ⟨rfl, rfl⟩
theorem jblock_any (s : ByteArray) (w : World) (hs : s.size ≤ 256) :
    Calls Tryz.prog 131 #[.string s] w fun e w' => e = .returned (.string (fill s)) ∧ Below w.heap.size w w' := by
  have he : fill s = s ++ zerosB (256 - s.size) := rfl
  rw [he]
  have HE : Hid (((256 - s.size : Nat) : Int) = 256 - (s.size : Int)) := by show _ = _; omega
  have hz := zeros_any (256 - s.size) w (by omega)
  rw [HE.out] at hz
  have hzs := zerosB_size (256 - s.size)
  have HZ : (zerosB (256 - s.size)).size ≤ 256 := by omega
  clear he hzs
  generalize zerosB (256 - s.size) = zb at *
  go_enter Tryz.func131, Tryz.ntmps131
  go_wp2_with (go_at_call 34; refine hz.mono ?_; rintro e w' ⟨rfl, hB⟩)
  go_ret
  exact ⟨rfl, hB⟩
theorem page10_any (n i : Int) (w : World) (h1 : 64 ≤ n) (h2 : n ≤ 2048) :
    Calls Tryz.prog 70 #[.int .i64 n, .int .i64 i] w fun e w' => e = .returned (.bool (isPage n i)) ∧ w = w' := by
  have hF := fun w => rfirst_any n w h1 h2
  have hP := fun w => rpages_any n w h1 h2
  have hp := jPages_bd n
  have hb := jBlocks_le hp.1
  have hfe := first_eq h1 h2
  have hm := pages_many h1 h2
  have hfb : 0 ≤ jFirst n ∧ jFirst n ≤ 4096 := by omega
  clear hfe hb h1 h2
  by_cases h0 : i = 0
  · subst h0
    rw [show isPage n 0 = true by simp [isPage]]
    clear hF hP
    go_enter Tryz.func70, Tryz.ntmps70
    go_wp2
    go_ret
    exact ⟨rfl, rfl⟩
  · by_cases hl : i < jFirst n
    · rw [show isPage n i = false by simp [isPage, h0]; omega]
      generalize jFirst n = fi at *
      generalize jPages n = pg at *
      have hz : (i == 0) = false := by simpa using h0
      clear hP h0
      go_enter Tryz.func70, Tryz.ntmps70
      go_wp2_with (go_at_call 97; refine (hF _).mono ?_; rintro e w' ⟨rfl, rfl⟩)
      go_ret
      exact ⟨rfl, rfl⟩
    · have hr : isPage n i = decide (i ≤ jFirst n + jPages n - 2) := by
        have hl' : jFirst n ≤ i := by omega
        simp only [isPage, h0, hl', decide_true, decide_false, Bool.false_or, Bool.true_and, decide_eq_decide]
        omega
      rw [hr]
      generalize jFirst n = fi at *
      generalize jPages n = pg at *
      have hz : (i == 0) = false := by simpa using h0
      have hl' : fi ≤ i := by omega
      clear h0 hl hr
      go_enter Tryz.func70, Tryz.ntmps70
      go_wp2_with (first
        | (go_at_call 97; refine (hF _).mono ?_; rintro e w' ⟨rfl, rfl⟩)
        | (go_at_call 98; refine (hP _).mono ?_; rintro e w' ⟨rfl, rfl⟩))
      go_ret
      exact ⟨rfl, rfl⟩
end Go.Proofs.YtdoankamaobkoaaGreat
