/- The numbers of the journal's blocks, read again. (Plain.) -/
import Derived.Test.YtdoankamaobkoaaGreatDoorCrash
set_option linter.unusedSimpArgs false
set_option linter.unusedVariables false
namespace Go.Proofs.YtdoankamaobkoaaGreatDoor
open Go.RowKit Go.Maps Go.Shelf

theorem listN (A : ByteArray) : A.data.toList.length = A.size := by rw [Array.length_toList]; rfl
theorem byteN_left {A X : ByteArray} {i : Nat} (h : i < A.size) : byteN (A ++ X) i = byteN A i := by
  unfold byteN
  rw [ByteArray.data_append, Array.toList_append]
  simp only [List.getD_eq_getElem?_getD]
  rw [List.getElem?_append_left (by rw [listN]; exact h)]
theorem byteN_right (A X : ByteArray) (i : Nat) : byteN (A ++ X) (A.size + i) = byteN X i := by
  unfold byteN
  rw [ByteArray.data_append, Array.toList_append]
  simp only [List.getD_eq_getElem?_getD]
  rw [List.getElem?_append_right (by rw [listN]; omega), listN, Nat.add_sub_cancel_left]
theorem byteN_put (n k p : Nat) (h : p < k) : byteN (putB n k) p = n / 2 ^ (8 * (k - 1 - p)) % 256 := by
  unfold byteN putB
  simp only [List.getD_eq_getElem?_getD, List.getElem?_map, List.getElem?_range h]
  simp
theorem getN_two (s : ByteArray) (i : Nat) : getN s i 2 = byteN s i * 256 + byteN s (i + 1) := by
  rw [getN_succ, getN_succ]
  simp [getN]
theorem getN_of {s : ByteArray} {i n : Nat} (hn : n < 65536) (h : ∀ c, c < 2 → byteN s (i + c) = byteN (putB n 2) c) : getN s i 2 = n := by
  rw [getN_two, show byteN s i = _ from h 0 (by omega), h 1 (by omega), byteN_put n 2 0 (by omega), byteN_put n 2 1 (by omega)]
  simp
  omega
theorem foldPut_byte (f : Nat → Nat) (i c : Nat) (hc : c < 2) : ∀ m, i < m → byteN ((List.range m).foldl (fun s i => s ++ putB (f i) 2) ⟨#[]⟩) (2 * i + c) = byteN (putB (f i) 2) c
  | 0, h => by omega
  | m + 1, h => by
    rw [List.range_succ, List.foldl_append]
    simp only [List.foldl_cons, List.foldl_nil]
    have hs := foldPut_size f m
    by_cases e : i < m
    · rw [byteN_left (by rw [hs]; omega)]; exact foldPut_byte f i c hc m e
    · obtain rfl : i = m := by omega
      have := byteN_right ((List.range i).foldl (fun s i => s ++ putB (f i) 2) ⟨#[]⟩) (putB (f i) 2) c
      rw [hs] at this
      exact this
/-- the i-th number of the list's blocks -/
theorem rows_get {l : Pgs} {i : Nat} (hi : i < l.length) (hat : ∀ q ∈ l, 0 ≤ q.1 ∧ q.1 < 65536) : getN ((jList l).getD (i / 128) ⟨#[]⟩) (i % 128 * 2) 2 = (l.getD i (0, ⟨#[]⟩)).1.toNat := by
  have hm := hat (l.getD i (0, ⟨#[]⟩)) (by rw [List.getD_eq_getElem?_getD, List.getElem?_eq_getElem hi]; exact List.getElem_mem _)
  have e : (jList l).getD (i / 128) ⟨#[]⟩ = fill (jRow l l.length (i / 128)) := by
    unfold jList jRaw
    rw [List.getD_eq_getElem?_getD, List.getElem?_map, List.getElem?_map, List.getElem?_range (by omega)]
    rfl
  rw [e]
  refine getN_of (by omega) fun c hc => ?_
  have hs := jRow_size l l.length (i / 128)
  have hlt : i % 128 < min 128 (l.length - 128 * (i / 128)) := by omega
  unfold fill padB
  rw [byteN_left (by rw [hs]; omega), show i % 128 * 2 + c = 2 * (i % 128) + c by omega]
  unfold jRow
  rw [foldPut_byte (fun k => (l.getD (128 * (i / 128) + k) (0, ⟨#[]⟩)).1.toNat) (i % 128) c hc _ hlt, show 128 * (i / 128) + i % 128 = i by omega]
/-- how many pages the head tells -/
theorem top_get {l : Pgs} (h : l.length < 65536) : getN (jTop l) 4 2 = l.length := by
  refine getN_of h fun c hc => ?_
  have e : jTop l = jMark ++ (putB l.length 2 ++ (putB (jSum l) 4 ++ zerosB (256 - (jMark ++ putB l.length 2 ++ putB (jSum l) 4).size))) := by
    unfold jTop fill padB
    rw [ByteArray.append_assoc, ByteArray.append_assoc]
  rw [e, show 4 + c = jMark.size + c from rfl, byteN_right, byteN_left (by rw [putB_size]; exact hc)]
theorem top_mark (l : Pgs) : (jTop l).extract 0 4 = jMark := by
  unfold jTop fill padB
  rw [ByteArray.append_assoc, ByteArray.append_assoc]
  exact ByteArray.extract_append_eq_left rfl
/-- a text that begins with four bytes -/
theorem prefix_yes (x p : ByteArray) (w : World) (hx : x.size = 256) (hp : p.size = 4) (hne : x.extract 0 4 = p) :
    Calls Tryz.prog 75 #[.string x, .string p] w fun e w' => e = .returned (.bool true) ∧ w = w' := by
  have hb : ((x.extract 0 4).toList == p.toList) = true := by rw [hne]; exact beq_self_eq_true _
  have hbb : ∀ W, Calls Tryz.prog 102 #[.string x, .string p] W fun e w' => e = .returned (.bool true) ∧ W = w' := fun W => by
    clear hne
    go_enter Tryz.func102, Tryz.ntmps102
    go_wp2
    go_ret
    exact ⟨rfl, rfl⟩
  clear hne hb
  go_enter Tryz.func75, Tryz.ntmps75
  go_wp2_with (go_at_call 102; refine (hbb _).mono ?_; rintro e w' ⟨rfl, rfl⟩)
  go_ret
  exact ⟨rfl, rfl⟩
end Go.Proofs.YtdoankamaobkoaaGreatDoor
