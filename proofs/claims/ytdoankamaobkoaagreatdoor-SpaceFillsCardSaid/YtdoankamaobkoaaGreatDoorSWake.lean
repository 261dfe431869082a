/- A new disk opened; and what every statement on the space asks ahead: wakes. -/
import Derived.Test.YtdoankamaobkoaaGreatDoorSNil
set_option linter.unusedSimpArgs false
set_option linter.unusedVariables false
namespace Go.Proofs.YtdoankamaobkoaaGreatDoor
open Go.RowKit Go.Maps Go.Shelf

theorem newDsk_blk {n : Nat} {i : Int} (h0 : 0 ≤ i) (h1 : i < n) : (newDsk n).blk i = zerosB 256 := by
  unfold Dsk.blk newDsk
  simp only [List.getD_eq_getElem?_getD, List.getElem?_replicate]
  rw [if_pos (by omega)]; rfl
theorem spOpened_new {n : Nat} (h : 64 ≤ n) : spOpened (newDsk n) = spLaid n (newDsk n).blk := by
  unfold spOpened
  rw [newDsk_n, newDsk_blk (by omega) (by omega), if_neg (zeros_name _)]

/-- a new disk, opened -/
theorem open_new {w0 w : World} {d bb n : Nat} {room : Int} (hB0 : Below w0.heap.size w0 w) (hg : Glob w0) (hD : DiskAt w d bb (.slice none 0 0) (newDsk n)) (hd : w0.heap.size ≤ d) (hbb : w0.heap.size ≤ bb)
    (h1 : 1 ≤ room) (h2 : room ≤ 1024) (hn1 : 64 ≤ n) (hn2 : n ≤ 2048) :
    Calls Tryz.prog 19 #[.pointer (some ⟨d, 0, none⟩), .int .i64 room] w fun e w' => ∃ s F, e = .returned (.tuple #[.pointer (some ⟨s, 0, none⟩), .int .i64 0]) ∧ SIn w0 w' s d F n (spLaid n (newDsk n).blk) (spLaid n (newDsk n).blk) 5000 ∧
      (∀ b, F b → b = d ∨ b = bb ∨ w.heap.size ≤ b) ∧ Upd (fun b => b = d ∨ b = bb) w w' := by
  have hO := open_sp (room := room) (N := 0) hB0 hg hD (fun b hb => by rcases hb with h | h | h; omega; omega; simp [Value.ownBlock] at h) h1 h2 (by rw [newDsk_n]; omega) (by simp [newDsk, zerosB_size]) ⟨rfl, rfl⟩ (by rw [newDsk_blk (by omega) (by omega), fill_nil]) (by simp [newDsk]) (by omega)
  rw [spOpened_new hn1, newDsk_n] at hO
  refine hO.mono ?_
  rintro e w' ⟨s, F, he, hS, hU, hF⟩
  refine ⟨s, F, he, hS.mono (by omega), fun b hb => ?_, hU.mono fun b _ hb => ?_⟩
  · rcases hF b hb with (h | h | h) | h
    · exact .inl h
    · exact .inr (.inl h)
    · simp [Value.ownBlock] at h
    · exact .inr (.inr h)
  · rcases hb with h | h | h
    · exact .inl h
    · exact .inr h
    · simp [Value.ownBlock] at h

/-! ### the map of a new space -/
theorem one_list : (padB ⟨#[1]⟩ 256).data.toList = 1 :: List.replicate 255 0 := by
  unfold padB
  rw [ByteArray.data_append, Array.toList_append]
  show ([1] : List UInt8) ++ List.replicate 255 0 = 1 :: List.replicate 255 0
  rfl
theorem byteN_one (k : Nat) : byteN (padB ⟨#[1]⟩ 256) k = if k = 0 then 1 else 0 := by
  unfold byteN
  rw [one_list, List.getD_eq_getElem?_getD]
  rcases k with _ | k
  · rfl
  · have hk : ¬ (k + 1 = 0) := by omega
    rw [List.getElem?_cons_succ, List.getElem?_replicate, if_neg hk]
    split <;> rfl
theorem bit_one (j : Nat) : bitB (padB ⟨#[1]⟩ 256) (j + 1) = false := by
  rw [bitB_test, byteN_one]
  split
  · rename_i h
    have : (j + 1) % 8 ≠ 0 := by omega
    obtain ⟨m, hm⟩ : ∃ m, (j + 1) % 8 = m + 1 := ⟨(j + 1) % 8 - 1, by omega⟩
    rw [hm]
    simp [Nat.testBit_succ]
  · simp
theorem spLaid_first {n : Int} (V : Int → ByteArray) : spLaid n V (jFirst n) = padB ⟨#[1]⟩ 256 := upd_same _ _ _
theorem takenTo_none {n : Int} {x : ByteArray} {k : Nat} (h : ∀ j, j < k → bitB x (j + 1) = false) : takenTo n x k = [] := by
  unfold takenTo
  rw [List.map_eq_nil_iff, List.filter_eq_nil_iff]
  intro j hj
  simp [h j (List.mem_range.1 hj)]
theorem free_laid {n : Int} (V : Int → ByteArray) : spFree n (spLaid n V) = spMany n := by
  unfold spFree
  rw [spLaid_first, takenTo_none (fun j _ => bit_one j)]
  simp

theorem first64 : jFirst 64 = 34 := by decide
theorem many64 : spMany 64 = 29 := by decide
set_option maxHeartbeats 4000000 in
set_option maxRecDepth 100000 in
theorem swakes_any (w : World) (hg : Glob w) : Calls Tryz.prog 8 #[] w fun e w' => e = .returned (.bool true) ∧ Below w.heap.size w w' := by
  obtain ⟨V1, hV1⟩ : ∃ V1, V1 = spLaid ((64 : Nat) : Int) (newDsk 64).blk := ⟨_, rfl⟩
  have hfr : spFree 64 V1 = 29 := by rw [hV1]; exact (free_laid _).trans (by rw [many64]; rfl)
  have hm1 : V1 (jFirst 64) = padB ⟨#[1]⟩ 256 := by rw [hV1]; exact spLaid_first _
  have hn1 : spNext 64 (V1 (jFirst 64)) = some 0 := by rw [hm1]; exact next_some (by rw [many64]; omega) (fun j hj => by omega) (bit_one 0)
  obtain ⟨V2, hV2⟩ : ∃ V2, V2 = spGot 64 V1 0 := ⟨_, rfl⟩
  have hm2 : V2 (jFirst 64) = flipB (padB ⟨#[1]⟩ 256) 1 := by rw [hV2]; unfold spGot; rw [upd_other _ (by omega), upd_same, hm1]
  have hsz : 1 / 8 < (padB ⟨#[1]⟩ 256).size := by rw [padB_size (by decide)]; omega
  have hb2 : ∀ j, bitB (V2 (jFirst 64)) (j + 1) = decide (j = 0) := fun j => by
    rw [hm2, bitB_flip _ hsz]
    by_cases e : j = 0
    · subst e; rw [if_pos rfl, bit_one 0]; rfl
    · rw [if_neg (by omega), bit_one j]; simp [e]
  have hn2 : spNext 64 (V2 (jFirst 64)) = some 1 := next_some (by rw [many64]; omega) (fun j hj => by rw [hb2]; simp; omega) (by rw [hb2]; rfl)
  obtain ⟨V3, hV3⟩ : ∃ V3, V3 = spGot 64 V2 1 := ⟨_, rfl⟩
  have hsz2 : 2 / 8 < (V2 (jFirst 64)).size := by rw [hm2, flipB_size, padB_size (by decide)]; omega
  have ht3 : spTaken 64 V3 37 = 8 := by
    have h3 : bitB (V3 (jFirst 64)) 3 = false := by
      have : V3 (jFirst 64) = flipB (V2 (jFirst 64)) 2 := by rw [hV3]; unfold spGot; rw [upd_other _ (by omega), upd_same]
      rw [this, bitB_flip _ hsz2, if_neg (by omega), hb2 2]; rfl
    unfold spTaken
    rw [first64] at h3 ⊢
    rw [if_neg (by have : jPages 64 = 31 := by decide
                   omega)]
    rw [show ((37 : Int) - 34).toNat = 3 from rfl, h3]; rfl
  have HA1 : Hid (∀ w' s d F N, SIn w w' s d F 64 V1 V1 N → N < 1000000 → Calls Tryz.prog 13 #[.pointer (some ⟨s, 0, none⟩)] w' fun e w'' => e = .returned (.tuple #[.int .i64 35, .int .i64 0]) ∧ SStp w w' w'' s d F 64 V2 V1 (N + 4)) := fun w' s d F N h hN => by
    have := alloc_some h hn1 (by omega)
    rw [first64, ← hV2] at this
    exact this
  have HA2 : Hid (∀ w' s d F N, SIn w w' s d F 64 V2 V1 N → N < 1000000 → Calls Tryz.prog 13 #[.pointer (some ⟨s, 0, none⟩)] w' fun e w'' => e = .returned (.tuple #[.int .i64 36, .int .i64 0]) ∧ SStp w w' w'' s d F 64 V3 V1 (N + 4)) := fun w' s d F N h hN => by
    have := alloc_some h hn2 (by omega)
    rw [first64, ← hV3] at this
    exact this
  have HGT : Hid (∀ w' s d F N, SIn w w' s d F 64 V3 V1 N → N < 1000000 → Calls Tryz.prog 26 #[.pointer (some ⟨s, 0, none⟩), .int .i64 37] w' fun e w'' => e = .returned (.tuple #[.string ⟨#[]⟩, .int .i64 8]) ∧ SStp w w' w'' s d F 64 V3 V1 (N + 4)) := fun w' s d F N h hN => by
    have := get_sp h 37 (by omega)
    rw [ht3] at this
    exact this
  have HFR : Hid (∀ w' s d F N, SIn w w' s d F 64 V1 V1 N → N < 1000000 → Calls Tryz.prog 14 #[.pointer (some ⟨s, 0, none⟩)] w' fun e w'' => e = .returned (.int .i64 29) ∧ SStp w w' w'' s d F 64 V1 V1 (N + 4)) := fun w' s d F N h hN => by
    have := free_sp h (by omega)
    rw [hfr] at this
    exact this
  have HO : Hid (∀ w' d bb, Below w.heap.size w w' → DiskAt w' d bb (.slice none 0 0) (newDsk 64) → w.heap.size ≤ d → w.heap.size ≤ bb → Calls Tryz.prog 19 #[.pointer (some ⟨d, 0, none⟩), .int .i64 4] w' fun e w'' => ∃ s F, e = .returned (.tuple #[.pointer (some ⟨s, 0, none⟩), .int .i64 0]) ∧ SIn w w'' s d F 64 V1 V1 5000) := fun w' d bb hB hD hd hbb =>
    (open_new hB hg hD hd hbb (by omega) (by omega) (by omega) (by omega)).mono fun _ _ ⟨s, F, he, hS, _⟩ => ⟨s, F, he, by rw [hV1]; exact hS⟩
  clear hfr hm1 hn1 hV2 hm2 hsz hb2 hn2 hV3 hsz2 ht3 hV1 hg
  go_enter Tryz.func8, Tryz.ntmps8
  go_wp2_with fail
  refine (diskNew_any 64 w (by omega) (by omega)).mono ?_
  rintro e w1 ⟨d, bb, rfl, hD, hd, hbb, hB⟩
  have hOp := HO.out w1 d bb hB hD hd hbb
  clear hB hD hd hbb HO
  go_wp2_with fail
  refine hOp.mono ?_
  rintro e w2 ⟨s, F, rfl, hS⟩
  have HS2 := Lib.hid hS
  have hF2 := HFR.out _ _ _ _ _ hS (by omega)
  clear hS hOp
  go_wp2_with fail
  refine hF2.mono ?_
  rintro e w3 ⟨rfl, hS⟩
  have HS3 := Lib.hid hS.sin
  have hA3 := HA1.out _ _ _ _ _ hS.sin (by omega)
  clear hS hF2 HA1
  go_wp2_with fail
  refine hA3.mono ?_
  rintro e w4 ⟨rfl, hS⟩
  have HS4 := Lib.hid hS.sin
  have hA4 := HA2.out _ _ _ _ _ hS.sin (by omega)
  clear hS hA3 HA2
  go_wp2_with fail
  refine hA4.mono ?_
  rintro e w5 ⟨rfl, hS⟩
  have HS5 := Lib.hid hS.sin
  have hG5 := HGT.out _ _ _ _ _ hS.sin (by omega)
  clear hS hA4 HGT
  go_wp2_with fail
  refine hG5.mono ?_
  rintro e w6 ⟨rfl, hS⟩
  have HS6 := Lib.hid hS.sin
  have hU6 := undo_sp hS.sin
  clear hS hG5
  go_wp2_with fail
  refine hU6.mono ?_
  rintro e w7 ⟨rfl, hS⟩
  have HS7 := Lib.hid hS.sin
  have hF7 := HFR.out _ _ _ _ _ hS.sin (by omega)
  clear hS hU6 HFR
  go_wp2_with fail
  refine hF7.mono ?_
  rintro e w8 ⟨rfl, hS⟩
  have HS8 := Lib.hid hS.sin
  clear hS hF7
  go_wp2
  go_ret
  exact ⟨rfl, HS8.out.below⟩
end Go.Proofs.YtdoankamaobkoaaGreatDoor
