/- A new space in memory, and what its pages show: none is taken. -/
import Derived.Test.YtmgcaohpbaiiaaaGreatDoorTList
set_option linter.unusedSimpArgs false
set_option linter.unusedVariables false
namespace Go.Proofs.YtmgcaohpbaiiaaaGreatDoor
open Go.RowKit Go.Maps Go.Shelf

theorem newDsk_blk {n : Nat} {i : Int} (h0 : 0 ≤ i) (h1 : i < n) : (newDsk n).blk i = zerosB 256 := by
  unfold Dsk.blk newDsk
  simp only [List.getD_eq_getElem?_getD, List.getElem?_replicate]
  rw [if_pos (by omega)]; rfl
theorem spOpened_new {n : Nat} (h : 64 ≤ n) : spOpened (newDsk n) = spLaid n (newDsk n).blk := by
  unfold spOpened
  rw [newDsk_n, newDsk_blk (by omega) (by omega), if_neg (zeros_name _)]

/-- a new disk, opened -/
theorem open_new {w0 w : World} {d bb n : Nat} {room : Int} (hB0 : Below w0.heap.size w0 w) (hg : Glob w0) (hD : DiskAt w d bb (.slice none 0 0) (newDsk n)) (hd : w0.heap.size ≤ d) (hbb : w0.heap.size ≤ bb)
    (h1 : 1 ≤ room) (h2 : room ≤ 1024) (hn1 : 64 ≤ n) (hn2 : n ≤ 2048) :
    Calls Tryz.prog 26 #[.pointer (some ⟨d, 0, none⟩), .int .i64 room] w fun e w' => ∃ s F, e = .returned (.tuple #[.pointer (some ⟨s, 0, none⟩), .int .i64 0]) ∧ SIn w0 w' s d F n (spLaid n (newDsk n).blk) (spLaid n (newDsk n).blk) 5000 ∧
      (∀ b, F b → b = d ∨ b = bb ∨ w.heap.size ≤ b) ∧ Upd (fun b => b = d ∨ b = bb) w w' := by
  have hO := open_sp (room := room) (N := 0) hB0 hg hD (fun b hb => by rcases hb with h | h | h; omega; omega; simp [Value.ownBlock] at h) h1 h2 (by rw [newDsk_n]; omega) (by simp [newDsk, zerosB_size]) ⟨rfl, rfl⟩ (by rw [newDsk_blk (by omega) (by omega), fill_nil]) (by simp [newDsk]) (by omega)
  rw [spOpened_new hn1, newDsk_n] at hO
  refine hO.mono ?_
  rintro e w' ⟨s, F, he, hS, hU, hF⟩
  refine ⟨s, F, he, hS.mono (by omega), fun b hb => ?_, hU.mono fun b _ hb => ?_⟩
  · rcases hF b hb with (h | h | h) | h
    · exact .inl h
    · exact .inr (.inl h)
    · simp [Value.ownBlock] at h
    · exact .inr (.inr h)
  · rcases hb with h | h | h
    · exact .inl h
    · exact .inr h
    · simp [Value.ownBlock] at h

/-! ### the map of a new space -/
theorem one_list : (padB ⟨#[1]⟩ 256).data.toList = 1 :: List.replicate 255 0 := by
  unfold padB
  rw [ByteArray.data_append, Array.toList_append]
  show ([1] : List UInt8) ++ List.replicate 255 0 = 1 :: List.replicate 255 0
  rfl
theorem byteN_one (k : Nat) : byteN (padB ⟨#[1]⟩ 256) k = if k = 0 then 1 else 0 := by
  unfold byteN
  rw [one_list, List.getD_eq_getElem?_getD]
  rcases k with _ | k
  · rfl
  · have hk : ¬ (k + 1 = 0) := by omega
    rw [List.getElem?_cons_succ, List.getElem?_replicate, if_neg hk]
    split <;> rfl
theorem bit_one (j : Nat) : bitB (padB ⟨#[1]⟩ 256) (j + 1) = false := by
  rw [bitB_test, byteN_one]
  split
  · rename_i h
    have : (j + 1) % 8 ≠ 0 := by omega
    obtain ⟨m, hm⟩ : ∃ m, (j + 1) % 8 = m + 1 := ⟨(j + 1) % 8 - 1, by omega⟩
    rw [hm]
    simp [Nat.testBit_succ]
  · simp
theorem spLaid_first {n : Int} (V : Int → ByteArray) : spLaid n V (jFirst n) = padB ⟨#[1]⟩ 256 := upd_same _ _ _
theorem map_laid (n : Int) (V : Int → ByteArray) : MapIs n (spLaid n V) (fun _ => false) := ⟨fun j _ => by rw [spLaid_first]; exact bit_one j⟩
/-- none of the pages is taken -/
def TS0 : TS := ⟨fun _ => none, fun _ => false⟩
theorem shows_new (n : Int) (V : Int → ByteArray) : Shows n (spLaid n V) TS0 := ⟨map_laid n V, fun at_ kind l h => by cases h⟩
set_option maxHeartbeats 2000000 in
set_option maxRecDepth 100000 in
theorem room_any {w0 w : World} (n : Nat) (h1 : 64 ≤ n) (h2 : n ≤ 2048) (hB0 : Below w0.heap.size w0 w) (hg : Glob w0) :
    Calls Tryz.prog 9 #[.int .i64 n] w fun e w' => ∃ s d F V, e = .returned (.pointer (some ⟨s, 0, none⟩)) ∧ SIn w0 w' s d F n V V 5000 ∧ (∀ b, F b → b < w'.heap.size) ∧ Shows n V TS0 := by
  have HO : Hid (∀ w' d bb, Below w.heap.size w w' → DiskAt w' d bb (.slice none 0 0) (newDsk n) → w.heap.size ≤ d → w.heap.size ≤ bb → Calls Tryz.prog 26 #[.pointer (some ⟨d, 0, none⟩), .int .i64 8] w' fun e w'' => ∃ s F, e = .returned (.tuple #[.pointer (some ⟨s, 0, none⟩), .int .i64 0]) ∧ SIn w0 w'' s d F n (spLaid n (newDsk n).blk) (spLaid n (newDsk n).blk) 5000 ∧ (∀ b, F b → b < w''.heap.size)) := fun w' d bb hB hD hd hbb => by
    have hs := hB0.size
    refine (open_new (hB0.trans (hB.mono hs)) hg hD (by omega) (by omega) (by omega) (by omega) (by omega) (by omega)).mono fun _ _ ⟨s, F, he, hS, _⟩ => ⟨s, _, he, hS.lt, fun b hb => hb.2⟩
  have HN := Lib.hid (diskNew_any n w h1 h2)
  clear hB0 hg
  generalize hz : (n : Int) = z at *
  go_enter Tryz.func9, Tryz.ntmps9
  go_wp2_with fail
  refine HN.out.mono ?_
  rintro e w1 ⟨d, bb, rfl, hD, hd, hbb, hB⟩
  have hOp := HO.out w1 d bb hB hD hd hbb
  clear hB hD hd hbb HO HN
  go_wp2_with fail
  refine hOp.mono ?_
  rintro e w2 ⟨s, F, rfl, hS, hF⟩
  clear hOp
  go_wp2
  go_ret
  exact ⟨s, d, F, _, rfl, hS, hF, shows_new _ _⟩
end Go.Proofs.YtmgcaohpbaiiaaaGreatDoor
