/- A nil space, a nil disk, rooms that may not be: what each call comes to · A new disk opened; and what every statement on the space asks ahead: wakes · The reference's Rows, Pages, First: the program's own · The reference's space in memory, and a new one · begin: a space on a new disk, and what it must be · The map of a space, as which pages are taken; what its calls make of it. -/
import Derived.Test.YtdoankamaobkoaaGreatDoorS1
import Derived.Test.YtdoankamaobkoaaGreatDoorKind
import Derived.Deep.RegionLaw
namespace Go.Proofs.YtdoankamaobkoaaGreatDoor
/-! SNil -/
section
set_option linter.unusedSimpArgs false
set_option linter.unusedVariables false
open Go.RowKit Go.Maps Go.Shelf

theorem sundo_nil (w : World) : Calls Tryz.prog 24 #[.pointer none] w fun e w' => e = .returned (.tuple #[]) ∧ w = w' := by
  go_enter Tryz.func24, Tryz.ntmps24
  go_wp2
  go_end0
  exact ⟨rfl, rfl⟩
theorem shead_nil (w : World) : Calls Tryz.prog 25 #[.pointer none] w fun e w' => e = .returned (.tuple #[.string ⟨#[]⟩, .int .i64 18]) ∧ w = w' := by
  go_enter Tryz.func25, Tryz.ntmps25
  go_wp2
  go_ret2
  exact ⟨rfl, rfl⟩
theorem sget_nil (i : Int) (w : World) : Calls Tryz.prog 26 #[.pointer none, .int .i64 i] w fun e w' => e = .returned (.tuple #[.string ⟨#[]⟩, .int .i64 18]) ∧ w = w' := by
  go_enter Tryz.func26, Tryz.ntmps26
  go_wp2
  go_ret2
  exact ⟨rfl, rfl⟩
theorem salloc_nil (w : World) : Calls Tryz.prog 13 #[.pointer none] w fun e w' => e = .returned (.tuple #[.int .i64 0, .int .i64 18]) ∧ w = w' := by
  go_enter Tryz.func13, Tryz.ntmps13
  go_wp2
  go_ret2
  exact ⟨rfl, rfl⟩
theorem sset_nil (x : ByteArray) (w : World) : Calls Tryz.prog 27 #[.pointer none, .string x] w fun e w' => e = .returned (.int .i64 18) ∧ w = w' := by
  go_enter Tryz.func27, Tryz.ntmps27
  go_wp2
  go_ret
  exact ⟨rfl, rfl⟩
theorem sput_nil (i : Int) (x : ByteArray) (w : World) : Calls Tryz.prog 28 #[.pointer none, .int .i64 i, .string x] w fun e w' => e = .returned (.int .i64 18) ∧ w = w' := by
  go_enter Tryz.func28, Tryz.ntmps28
  go_wp2
  go_ret
  exact ⟨rfl, rfl⟩
theorem srelease_nil (i : Int) (w : World) : Calls Tryz.prog 16 #[.pointer none, .int .i64 i] w fun e w' => e = .returned (.int .i64 18) ∧ w = w' := by
  go_enter Tryz.func16, Tryz.ntmps16
  go_wp2
  go_ret
  exact ⟨rfl, rfl⟩
theorem scommit_nil (w : World) : Calls Tryz.prog 15 #[.pointer none] w fun e w' => e = .returned (.int .i64 18) ∧ w = w' := by
  go_enter Tryz.func15, Tryz.ntmps15
  go_wp2
  go_ret
  exact ⟨rfl, rfl⟩
theorem sfree_nil (w : World) : Calls Tryz.prog 14 #[.pointer none] w fun e w' => e = .returned (.int .i64 0) ∧ w = w' := by
  go_enter Tryz.func14, Tryz.ntmps14
  go_wp2
  go_ret
  exact ⟨rfl, rfl⟩
theorem staken_nil (w : World) : Calls Tryz.prog 29 #[.pointer none] w fun e w' => e = .returned (.slice none 0 0) ∧ w = w' := by
  go_enter Tryz.func29, Tryz.ntmps29
  go_wp2
  go_ret
  exact ⟨rfl, rfl⟩
theorem pnew_nil (room : Int) (w : World) : Calls Tryz.prog 47 #[.pointer none, .int .i64 room] w fun e w' => e = .returned (.tuple #[.pointer none, .int .i64 18]) ∧ w = w' := by
  go_enter Tryz.func47, Tryz.ntmps47
  go_wp2
  go_ret2
  exact ⟨rfl, rfl⟩
theorem sopen_nil (room : Int) (w : World) : Calls Tryz.prog 19 #[.pointer none, .int .i64 room] w fun e w' => e = .returned (.tuple #[.pointer none, .int .i64 18]) ∧ w = w' := by
  go_enter Tryz.func19, Tryz.ntmps19
  go_wp2_with (go_at_call 47; refine (pnew_nil _ _).mono ?_; rintro e w' ⟨rfl, rfl⟩)
  go_ret2
  exact ⟨rfl, rfl⟩
theorem pnew_bad (d : Addr) (room : Int) (w : World) (h : room < 1 ∨ 1024 < room) : Calls Tryz.prog 47 #[.pointer (some d), .int .i64 room] w fun e w' => e = .returned (.tuple #[.pointer none, .int .i64 1]) ∧ w = w' := by
  by_cases h1 : room < 1
  · clear h
    go_enter Tryz.func47, Tryz.ntmps47
    go_wp2
    go_ret2
    exact ⟨rfl, rfl⟩
  · have h2 : 1024 < room := by omega
    have h3 : 1 ≤ room := by omega
    clear h h1
    go_enter Tryz.func47, Tryz.ntmps47
    go_wp2
    go_ret2
    exact ⟨rfl, rfl⟩
theorem sopen_bad (d : Addr) (room : Int) (w : World) (h : room < 1 ∨ 1024 < room) : Calls Tryz.prog 19 #[.pointer (some d), .int .i64 room] w fun e w' => e = .returned (.tuple #[.pointer none, .int .i64 1]) ∧ w = w' := by
  have hN := pnew_bad d room w h
  clear h
  go_enter Tryz.func19, Tryz.ntmps19
  go_wp2_with (go_at_call 47; refine hN.mono ?_; rintro e w' ⟨rfl, rfl⟩)
  go_ret2
  exact ⟨rfl, rfl⟩
end
/-! SWake -/
section
set_option linter.unusedSimpArgs false
set_option linter.unusedVariables false
open Go.RowKit Go.Maps Go.Shelf

theorem newDsk_blk {n : Nat} {i : Int} (h0 : 0 ≤ i) (h1 : i < n) : (newDsk n).blk i = zerosB 256 := by
  unfold Dsk.blk newDsk
  simp only [List.getD_eq_getElem?_getD, List.getElem?_replicate]
  rw [if_pos (by omega)]; rfl
theorem spOpened_new {n : Nat} (h : 64 ≤ n) : spOpened (newDsk n) = spLaid n (newDsk n).blk := by
  unfold spOpened
  rw [newDsk_n, newDsk_blk (by omega) (by omega), if_neg (zeros_name _)]

/-- a new disk, opened -/
theorem open_new {w0 w : World} {d bb n : Nat} {room : Int} (hB0 : Below w0.heap.size w0 w) (hg : Glob w0) (hD : DiskAt w d bb (.slice none 0 0) (newDsk n)) (hd : w0.heap.size ≤ d) (hbb : w0.heap.size ≤ bb)
    (h1 : 1 ≤ room) (h2 : room ≤ 1024) (hn1 : 64 ≤ n) (hn2 : n ≤ 2048) :
    Calls Tryz.prog 19 #[.pointer (some ⟨d, 0, none⟩), .int .i64 room] w fun e w' => ∃ s F, e = .returned (.tuple #[.pointer (some ⟨s, 0, none⟩), .int .i64 0]) ∧ SIn w0 w' s d F n (spLaid n (newDsk n).blk) (spLaid n (newDsk n).blk) 5000 ∧
      (∀ b, F b → b = d ∨ b = bb ∨ w.heap.size ≤ b) ∧ Upd (fun b => b = d ∨ b = bb) w w' := by
  have hO := open_sp (room := room) (N := 0) hB0 hg hD (fun b hb => by rcases hb with h | h | h; omega; omega; simp [Value.ownBlock] at h) h1 h2 (by rw [newDsk_n]; omega) (by simp [newDsk, zerosB_size]) ⟨rfl, rfl⟩ (by rw [newDsk_blk (by omega) (by omega), fill_nil]) (by simp [newDsk]) (by omega)
  rw [spOpened_new hn1, newDsk_n] at hO
  refine hO.mono ?_
  rintro e w' ⟨s, F, he, hS, hU, hF⟩
  refine ⟨s, F, he, hS.mono (by omega), fun b hb => ?_, hU.mono fun b _ hb => ?_⟩
  · rcases hF b hb with (h | h | h) | h
    · exact .inl h
    · exact .inr (.inl h)
    · simp [Value.ownBlock] at h
    · exact .inr (.inr h)
  · rcases hb with h | h | h
    · exact .inl h
    · exact .inr h
    · simp [Value.ownBlock] at h

/-! ### the map of a new space -/
theorem one_list : (padB ⟨#[1]⟩ 256).data.toList = 1 :: List.replicate 255 0 := by
  unfold padB
  rw [ByteArray.data_append, Array.toList_append]
  show ([1] : List UInt8) ++ List.replicate 255 0 = 1 :: List.replicate 255 0
  rfl
theorem byteN_one (k : Nat) : byteN (padB ⟨#[1]⟩ 256) k = if k = 0 then 1 else 0 := by
  unfold byteN
  rw [one_list, List.getD_eq_getElem?_getD]
  rcases k with _ | k
  · rfl
  · have hk : ¬ (k + 1 = 0) := by omega
    rw [List.getElem?_cons_succ, List.getElem?_replicate, if_neg hk]
    split <;> rfl
theorem bit_one (j : Nat) : bitB (padB ⟨#[1]⟩ 256) (j + 1) = false := by
  rw [bitB_test, byteN_one]
  split
  · rename_i h
    have : (j + 1) % 8 ≠ 0 := by omega
    obtain ⟨m, hm⟩ : ∃ m, (j + 1) % 8 = m + 1 := ⟨(j + 1) % 8 - 1, by omega⟩
    rw [hm]
    simp [Nat.testBit_succ]
  · simp
theorem spLaid_first {n : Int} (V : Int → ByteArray) : spLaid n V (jFirst n) = padB ⟨#[1]⟩ 256 := upd_same _ _ _
theorem takenTo_none {n : Int} {x : ByteArray} {k : Nat} (h : ∀ j, j < k → bitB x (j + 1) = false) : takenTo n x k = [] := by
  unfold takenTo
  rw [List.map_eq_nil_iff, List.filter_eq_nil_iff]
  intro j hj
  simp [h j (List.mem_range.1 hj)]
theorem free_laid {n : Int} (V : Int → ByteArray) : spFree n (spLaid n V) = spMany n := by
  unfold spFree
  rw [spLaid_first, takenTo_none (fun j _ => bit_one j)]
  simp

theorem first64 : jFirst 64 = 34 := by decide
theorem many64 : spMany 64 = 29 := by decide
set_option maxHeartbeats 4000000 in
set_option maxRecDepth 100000 in
theorem swakes_any (w : World) (hg : Glob w) : Calls Tryz.prog 8 #[] w fun e w' => e = .returned (.bool true) ∧ Below w.heap.size w w' := by
  obtain ⟨V1, hV1⟩ : ∃ V1, V1 = spLaid ((64 : Nat) : Int) (newDsk 64).blk := ⟨_, rfl⟩
  have hfr : spFree 64 V1 = 29 := by rw [hV1]; exact (free_laid _).trans (by rw [many64]; rfl)
  have hm1 : V1 (jFirst 64) = padB ⟨#[1]⟩ 256 := by rw [hV1]; exact spLaid_first _
  have hn1 : spNext 64 (V1 (jFirst 64)) = some 0 := by rw [hm1]; exact next_some (by rw [many64]; omega) (fun j hj => by omega) (bit_one 0)
  obtain ⟨V2, hV2⟩ : ∃ V2, V2 = spGot 64 V1 0 := ⟨_, rfl⟩
  have hm2 : V2 (jFirst 64) = flipB (padB ⟨#[1]⟩ 256) 1 := by rw [hV2]; unfold spGot; rw [upd_other _ (by omega), upd_same, hm1]
  have hsz : 1 / 8 < (padB ⟨#[1]⟩ 256).size := by rw [padB_size (by decide)]; omega
  have hb2 : ∀ j, bitB (V2 (jFirst 64)) (j + 1) = decide (j = 0) := fun j => by
    rw [hm2, bitB_flip _ hsz]
    by_cases e : j = 0
    · subst e; rw [if_pos rfl, bit_one 0]; rfl
    · rw [if_neg (by omega), bit_one j]; simp [e]
  have hn2 : spNext 64 (V2 (jFirst 64)) = some 1 := next_some (by rw [many64]; omega) (fun j hj => by rw [hb2]; simp; omega) (by rw [hb2]; rfl)
  obtain ⟨V3, hV3⟩ : ∃ V3, V3 = spGot 64 V2 1 := ⟨_, rfl⟩
  have hsz2 : 2 / 8 < (V2 (jFirst 64)).size := by rw [hm2, flipB_size, padB_size (by decide)]; omega
  have ht3 : spTaken 64 V3 37 = 8 := by
    have h3 : bitB (V3 (jFirst 64)) 3 = false := by
      have : V3 (jFirst 64) = flipB (V2 (jFirst 64)) 2 := by rw [hV3]; unfold spGot; rw [upd_other _ (by omega), upd_same]
      rw [this, bitB_flip _ hsz2, if_neg (by omega), hb2 2]; rfl
    unfold spTaken
    rw [first64] at h3 ⊢
    rw [if_neg (by have : jPages 64 = 31 := by decide
                   omega)]
    rw [show ((37 : Int) - 34).toNat = 3 from rfl, h3]; rfl
  have HA1 : Hid (∀ w' s d F N, SIn w w' s d F 64 V1 V1 N → N < 1000000 → Calls Tryz.prog 13 #[.pointer (some ⟨s, 0, none⟩)] w' fun e w'' => e = .returned (.tuple #[.int .i64 35, .int .i64 0]) ∧ SStp w w' w'' s d F 64 V2 V1 (N + 4)) := fun w' s d F N h hN => by
    have := alloc_some h hn1 (by omega)
    rw [first64, ← hV2] at this
    exact this
  have HA2 : Hid (∀ w' s d F N, SIn w w' s d F 64 V2 V1 N → N < 1000000 → Calls Tryz.prog 13 #[.pointer (some ⟨s, 0, none⟩)] w' fun e w'' => e = .returned (.tuple #[.int .i64 36, .int .i64 0]) ∧ SStp w w' w'' s d F 64 V3 V1 (N + 4)) := fun w' s d F N h hN => by
    have := alloc_some h hn2 (by omega)
    rw [first64, ← hV3] at this
    exact this
  have HGT : Hid (∀ w' s d F N, SIn w w' s d F 64 V3 V1 N → N < 1000000 → Calls Tryz.prog 26 #[.pointer (some ⟨s, 0, none⟩), .int .i64 37] w' fun e w'' => e = .returned (.tuple #[.string ⟨#[]⟩, .int .i64 8]) ∧ SStp w w' w'' s d F 64 V3 V1 (N + 4)) := fun w' s d F N h hN => by
    have := get_sp h 37 (by omega)
    rw [ht3] at this
    exact this
  have HFR : Hid (∀ w' s d F N, SIn w w' s d F 64 V1 V1 N → N < 1000000 → Calls Tryz.prog 14 #[.pointer (some ⟨s, 0, none⟩)] w' fun e w'' => e = .returned (.int .i64 29) ∧ SStp w w' w'' s d F 64 V1 V1 (N + 4)) := fun w' s d F N h hN => by
    have := free_sp h (by omega)
    rw [hfr] at this
    exact this
  have HO : Hid (∀ w' d bb, Below w.heap.size w w' → DiskAt w' d bb (.slice none 0 0) (newDsk 64) → w.heap.size ≤ d → w.heap.size ≤ bb → Calls Tryz.prog 19 #[.pointer (some ⟨d, 0, none⟩), .int .i64 4] w' fun e w'' => ∃ s F, e = .returned (.tuple #[.pointer (some ⟨s, 0, none⟩), .int .i64 0]) ∧ SIn w w'' s d F 64 V1 V1 5000) := fun w' d bb hB hD hd hbb =>
    (open_new hB hg hD hd hbb (by omega) (by omega) (by omega) (by omega)).mono fun _ _ ⟨s, F, he, hS, _⟩ => ⟨s, F, he, by rw [hV1]; exact hS⟩
  clear hfr hm1 hn1 hV2 hm2 hsz hb2 hn2 hV3 hsz2 ht3 hV1 hg
  go_enter Tryz.func8, Tryz.ntmps8
  go_wp2_with fail
  refine (diskNew_any 64 w (by omega) (by omega)).mono ?_
  rintro e w1 ⟨d, bb, rfl, hD, hd, hbb, hB⟩
  have hOp := HO.out w1 d bb hB hD hd hbb
  clear hB hD hd hbb HO
  go_wp2_with fail
  refine hOp.mono ?_
  rintro e w2 ⟨s, F, rfl, hS⟩
  have HS2 := Lib.hid hS
  have hF2 := HFR.out _ _ _ _ _ hS (by omega)
  clear hS hOp
  go_wp2_with fail
  refine hF2.mono ?_
  rintro e w3 ⟨rfl, hS⟩
  have HS3 := Lib.hid hS.sin
  have hA3 := HA1.out _ _ _ _ _ hS.sin (by omega)
  clear hS hF2 HA1
  go_wp2_with fail
  refine hA3.mono ?_
  rintro e w4 ⟨rfl, hS⟩
  have HS4 := Lib.hid hS.sin
  have hA4 := HA2.out _ _ _ _ _ hS.sin (by omega)
  clear hS hA3 HA2
  go_wp2_with fail
  refine hA4.mono ?_
  rintro e w5 ⟨rfl, hS⟩
  have HS5 := Lib.hid hS.sin
  have hG5 := HGT.out _ _ _ _ _ hS.sin (by omega)
  clear hS hA4 HGT
  go_wp2_with fail
  refine hG5.mono ?_
  rintro e w6 ⟨rfl, hS⟩
  have HS6 := Lib.hid hS.sin
  have hU6 := undo_sp hS.sin
  clear hS hG5
  go_wp2_with fail
  refine hU6.mono ?_
  rintro e w7 ⟨rfl, hS⟩
  have HS7 := Lib.hid hS.sin
  have hF7 := HFR.out _ _ _ _ _ hS.sin (by omega)
  clear hS hU6 HFR
  go_wp2_with fail
  refine hF7.mono ?_
  rintro e w8 ⟨rfl, hS⟩
  have HS8 := Lib.hid hS.sin
  clear hS hF7
  go_wp2
  go_ret
  exact ⟨rfl, HS8.out.below⟩
end
/-! Ref10 -/
section
set_option linter.unusedSimpArgs false
set_option linter.unusedVariables false
open Go.RowKit Go.Maps Go.Shelf

theorem rows_any (m : Int) (w : World) (h0 : 0 ≤ m) (h1 : m ≤ 4096) :
    Calls Tryz.prog 32 #[.int .i64 m] w fun e w' => e = .returned (.int .i64 (jBlocks m)) ∧ w = w' := by
  by_cases hz : 0 < m % 128
  · have e : jBlocks m = m / 128 + 1 := by unfold jBlocks; omega
    rw [e]
    clear e
    go_enter Tryz.func32, Tryz.ntmps32
    go_wp2
    go_ret
    exact ⟨rfl, rfl⟩
  · have e : jBlocks m = m / 128 := by unfold jBlocks; omega
    rw [e]
    have hz' : m % 128 ≤ 0 := by omega
    clear e hz
    go_enter Tryz.func32, Tryz.ntmps32
    go_wp2
    go_ret
    exact ⟨rfl, rfl⟩
theorem jBlocks_mono {a b : Int} (h : a ≤ b) : jBlocks a ≤ jBlocks b := by unfold jBlocks; omega
set_option maxHeartbeats 400000 in
theorem rpages_any (n : Int) (w : World) (h1 : 64 ≤ n) (h2 : n ≤ 2048) :
    Calls Tryz.prog 12 #[.int .i64 n] w fun e w' => e = .returned (.int .i64 (jPages n)) ∧ w = w' := by
  have hsp := jPages_spec h1 h2
  have hbd := jPages_bd n
  have HMX : Hid (∀ m : Nat, 2 * (m : Int) + 1 + jBlocks m ≤ n → (m : Int) ≤ jPages n) := fun m hm => by
    have hb := jBlocks_le (m := (m : Int)) (by omega)
    unfold jPages
    rw [if_neg (by omega)]
    have := jDown_ge hm (k := ((n - 1) / 2).toNat) (by omega)
    omega
  have HSP : Hid (∀ m : Nat, (m : Int) ≤ jPages n → 2 * (m : Int) + 1 + jBlocks m ≤ n) := fun m hm => by
    have := jBlocks_mono hm
    omega
  clear hsp
  generalize jPages n = pg at *
  go_enter Tryz.func12, Tryz.ntmps12
  go_wp2
  go_loop [3] (fun m => ∃ k : Nat, (k : Int) ≤ pg ∧ m = .int .i64 k) (fun m => (pg - intOf m).toNat)
  case atStart => exact ⟨0, by omega, rfl⟩
  case round =>
    obtain ⟨k, hk, rfl⟩ := hrel
    have hb := jBlocks_le (m := (k : Int) + 1) (by omega)
    by_cases hlt : (k : Int) < pg
    · have hle : 2 * ((k : Int) + 1) + 1 + jBlocks ((k : Int) + 1) ≤ n := HSP.out (k + 1) (by omega)
      go_wp2_with (go_at_call 32; refine (rows_any _ _ (by omega) (by omega)).mono ?_; rintro e w' ⟨rfl, rfl⟩)
      go_round
      case rel => exact ⟨k + 1, by omega, by go_num⟩
      case measure => simp [intOf]; omega
    · have hgt : n < 2 * ((k : Int) + 1) + 1 + jBlocks ((k : Int) + 1) := by
        by_cases h : 2 * ((k : Int) + 1) + 1 + jBlocks ((k : Int) + 1) ≤ n
        · have := HMX.out (k + 1) h; omega
        · omega
      obtain rfl : pg = (k : Int) := by omega
      go_wp2_with (go_at_call 32; refine (rows_any _ _ (by omega) (by omega)).mono ?_; rintro e w' ⟨rfl, rfl⟩)
      go_ret
      exact ⟨rfl, rfl⟩
theorem rfirst_any (n : Int) (w : World) (h1 : 64 ≤ n) (h2 : n ≤ 2048) :
    Calls Tryz.prog 10 #[.int .i64 n] w fun e w' => e = .returned (.int .i64 (jFirst n)) ∧ w = w' := by
  have hP := rpages_any n w h1 h2
  have hm := pages_many h1 h2
  have hbd := jPages_bd n
  have hb := jBlocks_le hbd.1
  rw [first_eq h1 h2]
  generalize jPages n = pg at *
  have hpz : (pg == 0) = false := by simp; omega
  go_enter Tryz.func10, Tryz.ntmps10
  go_wp2_with (first
    | (go_at_call 12; refine hP.mono ?_; rintro e w' ⟨rfl, rfl⟩)
    | (go_at_call 32; refine (rows_any _ _ (by omega) (by omega)).mono ?_; rintro e w' ⟨rfl, rfl⟩))
  go_ret
  exact ⟨rfl, rfl⟩
/-- of so many blocks -/
def spSize (k : Int) : Int := 64 + kindI k 40
theorem spSize_bd (k : Int) : 64 ≤ spSize k ∧ spSize k ≤ 103 := by have := kindI_bd (k := k) (n := 40) (by omega); unfold spSize; omega
theorem size_any (k : Int) (w : World) (hk : (Lit.int .i64 k).wf = true) :
    Calls Tryz.prog 11 #[.int .i64 k] w fun e w' => e = .returned (.int .i64 (spSize k)) ∧ w = w' := by
  have hbd := kindI_bd (k := k) (n := 40) (by omega)
  have hK := kind_any k 40 w hk (by omega) (by omega)
  unfold spSize
  generalize kindI k 40 = q at *
  go_enter Tryz.func11, Tryz.ntmps11
  go_wp2_with (go_at_call 30; refine hK.mono ?_; rintro e w' ⟨rfl, rfl⟩)
  go_ret
  exact ⟨rfl, rfl⟩
end
/-! RefNew -/
section
set_option linter.unusedSimpArgs false
set_option linter.unusedVariables false
open Go.RowKit Go.Maps Go.Shelf

/-- an append whose run is known, as a step of a region that draws its order -/
theorem step_append_run {P : Program} {w w' : World} {v v' x : Value} {ops : Array Oper} {o : Oper} {a : Act} {K : Act → World → Prop} {Q : Exit → Act → World → Prop} {E : Prop} {s y : Operand} {t ty : TypeId} (hr : (Builtin.append_ #[t, t] ty #[v, x]).run P w = .ok v' w') (hgd : o.guard = none) (hty : o.type = ty)
    (ho : o.op = .call { callee := .builtin .append, args := #[s, y], argTypes := #[t, t] }) (hs : a.eval s = v) (hy : a.eval y = x)
    (h : K (a.put o.dst v') w') : if Region.wanted o (yielded ops a.tmps) = true then Oper.wp P o a w K Q else E := by
  have hw : Region.wanted o (yielded ops a.tmps) = true := by simp [Region.wanted, hgd]
  rw [if_pos hw]
  subst hty
  unfold Oper.wp execOp
  simp only [ho, resolve, invoke, builtin, Sem.run_bind, Sem.run_pure, Result.andThen_ok, List.map_toArray, List.map_cons, List.map_nil, hs, hy, hr]
  exact h

/-- the reference's space, as plain data -/
structure Rf where
  top : ByteArray
  pages : List ByteArray
  taken : List Bool
structure RefAt (base : Nat) (w : World) (r : Nat) (vp vt : Value) (n : Int) (R : Rf) : Prop where
  obj : w.heap[r]? = some (.cells #[.int .i64 n, .string R.top, vp, vt] 89 (0, 0))
  pages : w.ownsRow base 9 1 vp R.pages.length (R.pages.map Value.string)
  taken : w.ownsRow base 4 1 vt R.taken.length (R.taken.map Value.bool)
  new : base ≤ r
theorem info_bool : (Tryz.prog.info? 4).map (fun i => (i.zero, i.size, i.bytes)) = some (some (.bool false), 1, 1) := by kernel_rfl
theorem ownsRow_below {w w' : World} {base : Nat} {T : TypeId} {sz : Nat} {v : Value} {n : Nat} {xs : List Value} (h : w.ownsRow base T sz v n xs) (hB : Below w.heap.size w w') : w'.ownsRow base T sz v n xs := by
  obtain ⟨hl, hr⟩ := h
  refine ⟨hl, ?_⟩
  rcases hr with hr | ⟨g, cap, cur, rfl, hb, hg, rest⟩
  · exact .inl hr
  · exact .inr ⟨g, cap, cur, rfl, hb, (hB.block g (lt_of hg)).trans hg, rest⟩
theorem RefAt.made {base : Nat} {w w' : World} {r : Nat} {vp vt : Value} {n : Int} {R : Rf} (h : RefAt base w r vp vt n R) (hB : Below w.heap.size w w') : RefAt base w' r vp vt n R :=
  ⟨(hB.block r (lt_of h.obj)).trans h.obj, ownsRow_below h.pages hB, ownsRow_below h.taken hB, h.new⟩

theorem setCell_other {w : World} {b g i : Nat} {u : Value} (h : g ≠ b) : (w.setCell ⟨b, i, none⟩ u).heap[g]? = w.heap[g]? := Below.heap_setCell w ⟨b, i, none⟩ u g h
theorem RefAt.page {base : Nat} {w w5 w6 : World} {r : Nat} {vp vt vp' : Value} {n : Int} {R : Rf} {z : ByteArray} (h : RefAt base w r vp vt n R) (hB : Below w.heap.size w w5)
    (hown : w6.ownsRow base 9 1 vp' (R.pages.length + 1) (R.pages.map Value.string ++ [.string z])) (hk : ∀ b, b < w5.heap.size → vp.ownBlock ≠ some b → w6.heap[b]? = w5.heap[b]?) :
    RefAt base (w6.setCell ⟨r, 2, none⟩ vp') r vp' vt n ⟨R.top, R.pages ++ [z], R.taken⟩ := by
  have h5 := h.made hB
  have hr : w6.heap[r]? = some (.cells #[.int .i64 n, .string R.top, vp, vt] 89 (0, 0)) := (hk r (lt_of h5.obj) (fun e => by
    obtain ⟨cur, hc⟩ := ownsRow_block h5.pages e; rw [h5.obj] at hc; simp at hc)).trans h5.obj
  refine ⟨heap_setCell_same hr 2 vp', ?_, ?_, h.new⟩
  · have : w6.ownsRow base 9 1 vp' (R.pages ++ [z]).length ((R.pages ++ [z]).map Value.string) := by rw [List.length_append, List.map_append]; exact hown
    refine ownsRow_keep this fun g hg => setCell_other fun e => ?_
    obtain ⟨cur, hc⟩ := ownsRow_block this hg
    rw [e, hr] at hc; simp at hc
  · refine ownsRow_keep h5.taken fun g hg => ?_
    obtain ⟨cur, hc⟩ := ownsRow_block h5.taken hg
    rw [setCell_other (fun e => by rw [e, h5.obj] at hc; simp at hc)]
    exact hk g (lt_of hc) (fun e => by obtain ⟨cur2, hc2⟩ := ownsRow_block h5.pages e; rw [hc] at hc2; simp at hc2)
theorem RefAt.flag {base : Nat} {w w5 w6 : World} {r : Nat} {vp vt vt' : Value} {n : Int} {R : Rf} {z : Bool} (h : RefAt base w r vp vt n R) (hB : Below w.heap.size w w5)
    (hown : w6.ownsRow base 4 1 vt' (R.taken.length + 1) (R.taken.map Value.bool ++ [.bool z])) (hk : ∀ b, b < w5.heap.size → vt.ownBlock ≠ some b → w6.heap[b]? = w5.heap[b]?) :
    RefAt base (w6.setCell ⟨r, 3, none⟩ vt') r vp vt' n ⟨R.top, R.pages, R.taken ++ [z]⟩ := by
  have h5 := h.made hB
  have hr : w6.heap[r]? = some (.cells #[.int .i64 n, .string R.top, vp, vt] 89 (0, 0)) := (hk r (lt_of h5.obj) (fun e => by
    obtain ⟨cur, hc⟩ := ownsRow_block h5.taken e; rw [h5.obj] at hc; simp at hc)).trans h5.obj
  refine ⟨heap_setCell_same hr 3 vt', ?_, ?_, h.new⟩
  · refine ownsRow_keep h5.pages fun g hg => ?_
    obtain ⟨cur, hc⟩ := ownsRow_block h5.pages hg
    rw [setCell_other (fun e => by rw [e, h5.obj] at hc; simp at hc)]
    exact hk g (lt_of hc) (fun e => by obtain ⟨cur2, hc2⟩ := ownsRow_block h5.taken e; rw [hc] at hc2; simp at hc2)
  · have : w6.ownsRow base 4 1 vt' (R.taken ++ [z]).length ((R.taken ++ [z]).map Value.bool) := by rw [List.length_append, List.map_append]; exact hown
    refine ownsRow_keep this fun g hg => setCell_other fun e => ?_
    obtain ⟨cur, hc⟩ := ownsRow_block this hg
    rw [e, hr] at hc; simp at hc

def newRf (k : Nat) : Rf := ⟨zerosB 248, List.replicate k (zerosB 256), List.replicate k false⟩
set_option maxHeartbeats 2000000 in
set_option maxRecDepth 100000 in
theorem rnew_any (n : Int) (w : World) (h1 : 64 ≤ n) (h2 : n ≤ 2048) :
    Calls Tryz.prog 22 #[.int .i64 n] w fun e w' => ∃ r vp vt, e = .returned (.pointer (some ⟨r, 0, none⟩)) ∧ RefAt w.heap.size w' r vp vt n (newRf (spMany n)) ∧ Below w.heap.size w w' := by
  obtain ⟨m1, m2, m3⟩ := spMany_bd h1 h2
  have HP : Hid (∀ W, Calls Tryz.prog 12 #[.int .i64 n] W fun e w' => e = .returned (.int .i64 ((spMany n : Int) + 2)) ∧ W = w') := fun W => by
    have := rpages_any n W h1 h2
    rw [show jPages n = (spMany n : Int) + 2 by omega] at this
    exact this
  clear m3
  generalize spMany n = m at *
  go_enter Tryz.func22, Tryz.ntmps22
  go_wp2_with fail
  refine (zeros_any 248 w (by omega)).mono ?_
  rintro e w1 ⟨rfl, hB1⟩
  have HR0 : Hid (RefAt w.heap.size (w1.alloc (.cells #[.int .i64 n, .string (zerosB 248), .slice none 0 0, .slice none 0 0] 89)) w1.heap.size (.slice none 0 0) (.slice none 0 0) n (newRf 0)) :=
    ⟨heap_alloc_new' _ _, World.ownsRow_nil _ _ _ _, World.ownsRow_nil _ _ _ _, hB1.size⟩
  have HB0 : Hid (Below w.heap.size w (w1.alloc (.cells #[.int .i64 n, .string (zerosB 248), .slice none 0 0, .slice none 0 0] 89))) := hB1.alloc hB1.size _
  clear hB1
  go_wp2
  have HM : Hid (∀ k wr r vp vt, RefAt w.heap.size wr r vp vt n (newRf k) → k < 2000 → ∀ w5, Below wr.heap.size wr w5 →
      w5.cell? ⟨r, 2, none⟩ = some vp ∧ w5.frozen? ⟨r, 2, none⟩ = false ∧ ∃ ao co w6, (Builtin.append_ #[79, 79] 79 #[vp, .slice (some ⟨w5.heap.size, 0, none⟩) 1 1]).run Tryz.prog (w5.alloc (.cells #[.string (zerosB 256)] 9)) = .ok (.slice ao (k + 1) co) w6 ∧
        w6.cell? ⟨r, 2, none⟩ = some vp ∧ w6.frozen? ⟨r, 2, none⟩ = false ∧
        RefAt w.heap.size (w6.setCell ⟨r, 2, none⟩ (.slice ao (k + 1) co)) r (.slice ao (k + 1) co) vt n ⟨zerosB 248, List.replicate (k + 1) (zerosB 256), List.replicate k false⟩ ∧
        (Below w.heap.size w wr → Below w.heap.size w (w6.setCell ⟨r, 2, none⟩ (.slice ao (k + 1) co)))) := fun k wr r vp vt h hk w5 h5 => by
    have hm := h.made h5
    have hl : (newRf k).pages.length = k := by simp [newRf]
    obtain ⟨ao, co, w6, hr, hown, hB, hkp, hsz⟩ := one_append_at 9 79 (.string ⟨#[]⟩) 16 info_str Tryz.underlying79 rfl (by omega) w5 w.heap.size vp _ _ (.string (zerosB 256)) rfl hm.pages (by rw [hl]; omega) (by have := hm.new; have := lt_of hm.obj; omega)
    have hob : w6.heap[r]? = w5.heap[r]? := hkp r (lt_of hm.obj) (fun e => by obtain ⟨cur, hc⟩ := ownsRow_block hm.pages e; rw [hm.obj] at hc; simp at hc)
    have hR := h.page h5 hown hkp
    rw [hl] at hr hown hR
    rw [show (newRf k).pages ++ [zerosB 256] = List.replicate (k + 1) (zerosB 256) by rw [List.replicate_succ']; rfl] at hR
    refine ⟨by rw [cell_of hm.obj]; rfl, frozen_of hm.obj 2, ao, co, w6, hr, by rw [cell_of (hob.trans hm.obj)]; rfl, frozen_of (hob.trans hm.obj) 2, hR, fun hb => ?_⟩
    exact (hB w w.heap.size (hb.trans (h5.mono hb.size)) (Nat.le_refl _) (Nat.le_refl _)).setCell (p := ⟨r, 2, none⟩) h.new _
  have HF : Hid (∀ k wr r vp vt, RefAt w.heap.size wr r vp vt n ⟨zerosB 248, List.replicate (k + 1) (zerosB 256), List.replicate k false⟩ → k < 2000 →
      wr.cell? ⟨r, 3, none⟩ = some vt ∧ wr.frozen? ⟨r, 3, none⟩ = false ∧ ∃ ao co w6, (Builtin.append_ #[37, 37] 37 #[vt, .slice (some ⟨wr.heap.size, 0, none⟩) 1 1]).run Tryz.prog (wr.alloc (.cells #[.bool false] 4)) = .ok (.slice ao (k + 1) co) w6 ∧
        w6.cell? ⟨r, 3, none⟩ = some vt ∧ w6.frozen? ⟨r, 3, none⟩ = false ∧
        RefAt w.heap.size (w6.setCell ⟨r, 3, none⟩ (.slice ao (k + 1) co)) r vp (.slice ao (k + 1) co) n (newRf (k + 1)) ∧
        (Below w.heap.size w wr → Below w.heap.size w (w6.setCell ⟨r, 3, none⟩ (.slice ao (k + 1) co)))) := fun k wr r vp vt hm hk => by
    have hl : (List.replicate k false).length = k := by simp
    obtain ⟨ao, co, w6, hr, hown, hB, hkp, hsz⟩ := one_append_at 4 37 (.bool false) 1 info_bool Tryz.underlying37 rfl (by omega) wr w.heap.size vt _ _ (.bool false) rfl hm.taken (by simp; omega) (by have := hm.new; have := lt_of hm.obj; omega)
    have hob : w6.heap[r]? = wr.heap[r]? := hkp r (lt_of hm.obj) (fun e => by obtain ⟨cur, hc⟩ := ownsRow_block hm.taken e; rw [hm.obj] at hc; simp at hc)
    have hR := hm.flag (Below.refl _ _) hown hkp
    simp only [hl] at hr hown hR
    rw [show List.replicate k false ++ [false] = List.replicate (k + 1) false by rw [List.replicate_succ']] at hR
    refine ⟨by rw [cell_of hm.obj]; rfl, frozen_of hm.obj 3, ao, co, w6, hr, by rw [cell_of (hob.trans hm.obj)]; rfl, frozen_of (hob.trans hm.obj) 3, hR, fun hb => ?_⟩
    exact (hB w w.heap.size hb (Nat.le_refl _) (Nat.le_refl _)).setCell (p := ⟨r, 3, none⟩) hm.new _
  generalize (w1.alloc (.cells #[.int .i64 n, .string (zerosB 248), .slice none 0 0, .slice none 0 0] 89)) = w2 at *
  generalize w1.heap.size = r at *
  go_loopw [4] (fun i wr => ∃ (k : Nat) (vp vt : Value), i = .int .i64 k ∧ k ≤ m ∧ Hid (RefAt w.heap.size wr r vp vt n (newRf k)) ∧ Hid (Below w.heap.size w wr)) (fun i _ => m - (intOf i).toNat)
  case atStart => exact ⟨0, _, _, rfl, by omega, HR0, HB0⟩
  case round =>
    obtain ⟨k, vp, vt, rfl, hk, HR, HB⟩ := hrel
    have hp := HP.out wr
    by_cases hlt : k < m
    · have HM5 := Lib.hid (HM.out k wr r vp vt HR.out (by omega))
      have HZ := Lib.hid (zeros_any 256 wr.drew (by omega))
      have hc0 : wr.drew.cell? ⟨r, 2, none⟩ = some vp := (HM5.out wr (Below.refl _ _)).1
      clear HM HR0 HB0
      go_upto_region 5 with (go_at_call 12; refine hp.mono ?_; rintro e w' ⟨rfl, rfl⟩)
      go_region_law (first
        | (refine step_append_run hrun rfl rfl rfl rfl rfl ?_)
        | (go_simp; go_at_call 56; refine HZ.out.mono ?_; rintro e w5 ⟨rfl, hB5⟩
           obtain ⟨c5, f5, ao, co, w6, hrun, c6, f6, HR6, HB6⟩ := HM5.out w5 (((Below.refl _ wr).drew).trans hB5)
           have hr5 := World.block_lt_of_cell? w5 _ c5
           have c5b : ∀ o, (w5.alloc o).cell? ⟨r, 2, none⟩ = some vp := fun o => by rw [World.cell?_alloc_lt _ _ ⟨r, 2, none⟩ hr5]; exact c5))
      all_goals
        have HR7 := Lib.hid HR6
        have HB7 := Lib.hid (HB6 HB.out)
        clear HR6 HB6 hrun c6 f6 c5b c5 f5 HM5 HZ hr5 HR HB hc0
        generalize (w6.setCell ⟨r, 2, none⟩ (.slice ao (k + 1) co)) = w7 at *
        obtain ⟨c7, f7, ao2, co2, w8, hrun2, c8, f8, HR8, HB8⟩ := HF.out k w7 r _ vt HR7.out (by omega)
        have HR9 := Lib.hid HR8
        have HB9 := Lib.hid (HB8 HB7.out)
        clear HR8 HB8 HF
        go_wp2_with (at_builtin; refine wpList_append_run hrun2 rfl rfl rfl rfl rfl ?_)
        go_roundw
        case rel => exact ⟨k + 1, _, _, by go_num, by omega, HR9, HB9⟩
        case measure => simp [intOf]; omega
    · obtain rfl : k = m := by omega
      clear HM HF
      go_wp2_with (go_at_call 12; refine hp.mono ?_; rintro e w' ⟨rfl, rfl⟩)
      go_ret
      exact ⟨r, vp, vt, rfl, HR.out, HB.out⟩
end
/-! Begin -/
section
set_option linter.unusedSimpArgs false
set_option linter.unusedVariables false
open Go.RowKit Go.Maps Go.Shelf

theorem SIn.lt {w0 w : World} {s d : Nat} {F : Nat → Prop} {n N : Int} {V D : Int → ByteArray} (h : SIn w0 w s d F n V D N) : SIn w0 w s d (fun b => F b ∧ b < w.heap.size) n V D N := by
  obtain ⟨p, S, hP, hS, hc⟩ := h.ex
  exact ⟨⟨p, S, ⟨hP.pat.lt, fun b hb => hP.new b hb.1, hP.below⟩, hS, hc⟩, h.new, fun hx => h.out hx.1, h.glob⟩
/-- the reference's blocks -/
def refFp (r : Nat) (vp vt : Value) (b : Nat) : Prop := b = r ∨ vp.ownBlock = some b ∨ vt.ownBlock = some b
theorem RefAt.fp_lt {base : Nat} {w : World} {r : Nat} {vp vt : Value} {n : Int} {R : Rf} (h : RefAt base w r vp vt n R) {b : Nat} (hb : refFp r vp vt b) : base ≤ b ∧ b < w.heap.size := by
  rcases hb with rfl | hb | hb
  · exact ⟨h.new, lt_of h.obj⟩
  · exact h.pages.lt b hb
  · exact h.taken.lt b hb
/-- what a new space's pages show -/
def spV (n : Int) : Int → ByteArray := spLaid (spSize n) (newDsk (spSize n).toNat).blk
set_option maxHeartbeats 2000000 in
set_option maxRecDepth 100000 in
theorem begin_any (n room : Int) (hn : (Lit.int .i64 n).wf = true) (hr : (Lit.int .i64 room).wf = true) (w0 w : World) (hB0 : Below w0.heap.size w0 w) (hg : Glob w0) :
    Calls Tryz.prog 9 #[.int .i64 n, .int .i64 room] w fun e w' => ∃ (W s d : Nat) (F : Nat → Prop) (r1 r2 b1 b2 : Nat) (vp1 vt1 vp2 vt2 : Value), e = .returned (.pointer (some ⟨W, 0, none⟩)) ∧
      w'.heap[W]? = some (.cells #[.pointer (some ⟨d, 0, none⟩), .pointer (some ⟨s, 0, none⟩), .pointer (some ⟨r1, 0, none⟩), .pointer (some ⟨r2, 0, none⟩)] 33 (0, 0)) ∧
      SIn w0 w' s d F (spSize n) (spV n) (spV n) 5000 ∧ (∀ b, F b → b < b1) ∧ s < b1 ∧ b1 ≤ b2 ∧ b2 ≤ W ∧ w0.heap.size ≤ b1 ∧ RefAt b1 w' r1 vp1 vt1 (spSize n) (newRf (spMany (spSize n))) ∧ (∀ b, refFp r1 vp1 vt1 b → b < b2) ∧
      RefAt b2 w' r2 vp2 vt2 (spSize n) (newRf (spMany (spSize n))) ∧ (∀ b, refFp r2 vp2 vt2 b → b < W) := by
  have hs := spSize_bd n
  have HSZ := Lib.hid (fun W => size_any n W hn)
  have hkb := kindI_bd (k := room) (n := 20) (by omega)
  have HK := Lib.hid (fun W => kind_any room 20 W hr (by omega) (by omega))
  have HV : Hid (spV n = spLaid (spSize n) (newDsk (spSize n).toNat).blk) := rfl
  obtain ⟨z, hz⟩ : ∃ z : Nat, spSize n = z := ⟨(spSize n).toNat, by omega⟩
  rw [hz] at hs HSZ HV ⊢
  have hz1 : 64 ≤ z := by omega
  have hz2 : z ≤ 103 := by omega
  have HN : Hid (∀ W, Calls Tryz.prog 22 #[.int .i64 (z : Int)] W fun e w' => ∃ r vp vt, e = .returned (.pointer (some ⟨r, 0, none⟩)) ∧ RefAt W.heap.size w' r vp vt z (newRf (spMany z)) ∧ Below W.heap.size W w') := fun W => rnew_any z W (by omega) (by omega)
  have HV2 : Hid (spV n = spLaid z (newDsk z).blk) := by have := HV.out; rwa [show ((z : Int)).toNat = z by omega] at this
  have HB0 := Lib.hid hB0
  have HG := Lib.hid hg
  obtain ⟨q, HQ⟩ : ∃ q, Hid (kindI room 20 = q) := ⟨_, Lib.hid rfl⟩
  rw [HQ.out] at HK hkb
  clear hz HV hs hB0 hg HQ
  go_enter Tryz.func9, Tryz.ntmps9
  go_wp2_with fail
  refine (HSZ.out _).mono ?_
  rintro e w1 ⟨rfl, rfl⟩
  go_wp2_with fail
  refine (diskNew_any z w (by omega) (by omega)).mono ?_
  rintro e w2 ⟨d, bb, rfl, hD, hd, hbb, hB⟩
  have hs0 := HB0.out.size
  have HO := Lib.hid (open_new (room := 1 + q) (HB0.out.trans (hB.mono hs0)) HG.out hD (by omega) (by omega) (by omega) (by omega) hz1 (by omega))
  clear hD hB hd hbb
  go_wp2_with (go_at_call 30; refine (HK.out _).mono ?_; rintro e w' ⟨rfl, rfl⟩)
  refine HO.out.mono ?_
  rintro e w3 ⟨s, F, rfl, hS, _, _⟩
  have HS := Lib.hid hS.lt
  have HSL := Lib.hid hS.slt
  clear hS HO
  go_wp2_with (go_at_call 11; refine (HSZ.out _).mono ?_; rintro e w' ⟨rfl, rfl⟩)
  refine (HN.out w3).mono ?_
  rintro e w4 ⟨r1, vp1, vt1, rfl, hR1, hB4⟩
  have HR1 := Lib.hid hR1
  have HB4 := Lib.hid hB4
  clear hR1 hB4
  go_wp2_with (go_at_call 11; refine (HSZ.out _).mono ?_; rintro e w' ⟨rfl, rfl⟩)
  refine (HN.out w4).mono ?_
  rintro e w5 ⟨r2, vp2, vt2, rfl, hR2, hB5⟩
  have HR2 := Lib.hid hR2
  have HB5 := Lib.hid hB5
  clear hR2 hB5
  go_wp2
  go_ret
  have h4 := HB4.out.size
  have h5 := HB5.out.size
  have hA := (Below.refl _ w5).alloc (Nat.le_refl _) (.cells #[.pointer (some ⟨d, 0, none⟩), .pointer (some ⟨s, 0, none⟩), .pointer (some ⟨r1, 0, none⟩), .pointer (some ⟨r2, 0, none⟩)] 33)
  have hBB := HB4.out.trans (HB5.out.mono h4)
  refine ⟨w5.heap.size, s, d, fun b => F b ∧ b < w3.heap.size, r1, r2, w3.heap.size, w4.heap.size, vp1, vt1, vp2, vt2, rfl, heap_alloc_new' _ _, ?_, fun b hb => hb.2, HSL.out, h4, h5, ?_, (HR1.out.made HB5.out).made hA, fun b hb => (HR1.out.fp_lt hb).2, HR2.out.made hA, fun b hb => (HR2.out.fp_lt hb).2⟩
  · rw [HV2.out]; exact (HS.out.made hBB).made ((hA.mono (Nat.le_refl _)))
  · exact HS.out.below.size
end
/-! Fills -/
section
set_option linter.unusedSimpArgs false
set_option linter.unusedVariables false
open Go.RowKit Go.Maps Go.Shelf

/-- which of the user's pages are taken -/
structure MapIs (n : Int) (V : Int → ByteArray) (f : Nat → Bool) : Prop where
  bits : ∀ j, j < spMany n → bitB (V (jFirst n)) (j + 1) = f j
section
variable {n : Int} {V : Int → ByteArray} {f : Nat → Bool} {k : Nat}
theorem MapIs.next (h : MapIs n V f) (hk : k < spMany n) (ha : ∀ j, j < k → f j = true) (hf : f k = false) : spNext n (V (jFirst n)) = some k :=
  next_some hk (fun j hj => (h.bits j (by omega)).trans (ha j hj)) ((h.bits k hk).trans hf)
theorem MapIs.full (h : MapIs n V f) (ha : ∀ j, j < spMany n → f j = true) : spNext n (V (jFirst n)) = none :=
  next_none fun j hj => (h.bits j hj).trans (ha j hj)
theorem MapIs.taken (h : MapIs n V f) (h1 : 64 ≤ n) (h2 : n ≤ 2048) (hk : k < spMany n) : spTaken n V (jFirst n + 1 + (k : Int)) = if f k then 0 else 8 := by
  obtain ⟨m1, m2, m3⟩ := spMany_bd h1 h2
  unfold spTaken
  rw [if_neg (by omega), show (jFirst n + 1 + (k : Int) - jFirst n).toNat = k + 1 by omega, h.bits k hk]
theorem MapIs.got (h : MapIs n V f) (hk : k < spMany n) (hsz : (V (jFirst n)).size = 256) (hm : spMany n ≤ 1022) (hf : f k = false) : MapIs n (spGot n V k) (fun j => f j || decide (j = k)) := by
  refine ⟨fun j hj => ?_⟩
  have : spGot n V k (jFirst n) = flipB (V (jFirst n)) (k + 1) := by unfold spGot; rw [upd_other _ (by omega), upd_same]
  rw [this, bitB_flip _ (by omega)]
  by_cases e : j = k
  · subst e
    rw [if_pos rfl, h.bits j hj, hf]; simp
  · rw [if_neg (by omega), h.bits j hj]; simp [e]
theorem MapIs.back (h : MapIs n V f) (hk : k < spMany n) (hsz : (V (jFirst n)).size = 256) (hm : spMany n ≤ 1022) (hf : f k = true) :
    MapIs n (upd V (jFirst n) (flipB (V (jFirst n)) (k + 1))) (fun j => f j && !decide (j = k)) := by
  refine ⟨fun j hj => ?_⟩
  rw [upd_same, bitB_flip _ (by omega)]
  by_cases e : j = k
  · subst e
    rw [if_pos rfl, h.bits j hj, hf]; simp
  · rw [if_neg (by omega), h.bits j hj]; simp [e]
theorem MapIs.congr {g : Nat → Bool} (h : MapIs n V f) (hg : ∀ j, j < spMany n → f j = g j) : MapIs n V g := ⟨fun j hj => (h.bits j hj).trans (hg j hj)⟩
theorem takenTo_all {x : ByteArray} {k : Nat} (h : ∀ j, j < k → bitB x (j + 1) = true) : (takenTo n x k).length = k := by
  unfold takenTo
  rw [List.length_map]
  have : ((List.range k).filter fun j => bitB x (j + 1)) = List.range k := List.filter_eq_self.2 fun j hj => h j (List.mem_range.1 hj)
  rw [this, List.length_range]
theorem MapIs.free (h : MapIs n V f) (ha : ∀ j, j < spMany n → f j = true) : spFree n V = 0 := by
  unfold spFree
  rw [takenTo_all fun j hj => (h.bits j hj).trans (ha j hj)]
  omega
end
theorem map_new (n : Int) : MapIs (spSize n) (spV n) (fun _ => false) := ⟨fun j _ => by unfold spV; rw [spLaid_first]; exact bit_one j⟩

/-- a block that is none of the space's -/
structure Out (w : World) (g : Nat) (F : Nat → Prop) (o : Obj) : Prop where
  obj : w.heap[g]? = some o
  out : ¬ F g
theorem Out.step {w w' : World} {g : Nat} {F : Nat → Prop} {o : Obj} (h : Out w g F o) (hu : Upd F w w') : Out w' g (ext F w w') o :=
  ⟨(hu.block g (lt_of h.obj) h.out).trans h.obj, fun hx => hx.elim h.out (fun hx => by have := lt_of h.obj; omega)⟩
theorem Out.made {w w' : World} {g : Nat} {F : Nat → Prop} {o : Obj} (h : Out w g F o) (hB : Below w.heap.size w w') : Out w' g F o := ⟨(hB.block g (lt_of h.obj)).trans h.obj, h.out⟩
theorem SIn.setCell {w0 w : World} {s d g : Nat} {F : Nat → Prop} {n N : Int} {V D : Int → ByteArray} (h : SIn w0 w s d F n V D N) (hn : w0.heap.size ≤ g) (ho : ¬ F g) (hs : g ≠ s) (i : Nat) (v : Value) : SIn w0 (w.setCell ⟨g, i, none⟩ v) s d F n V D N := by
  obtain ⟨p, S, hP, hS, hc⟩ := h.ex
  refine ⟨⟨p, S, ⟨hP.pat.upd (G := fun b => b = g) (Upd.setCell (F := fun b => b = g) (Upd.refl _ w) ⟨g, i, none⟩ (fun _ => rfl) v) (fun b hb e => ho (e ▸ hb)), hP.new, hP.below.setCell hn v⟩, hS, (setCell_other (fun e => hs e.symm)).trans hc⟩, h.new, h.out, h.glob⟩
end
end Go.Proofs.YtdoankamaobkoaaGreatDoor
