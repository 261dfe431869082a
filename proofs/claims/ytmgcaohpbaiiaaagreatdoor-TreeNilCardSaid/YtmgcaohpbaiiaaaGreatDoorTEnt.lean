/- Entries, and pages of entries, as plain data. -/
import Derived.Test.YtmgcaohpbaiiaaaGreatDoorS1
import Derived.Maps.AppendAt
import Derived.Lib.AppendStr
import Derived.Sort.Walk0
set_option linter.unusedSimpArgs false
set_option linter.unusedVariables false
namespace Go.Proofs.YtmgcaohpbaiiaaaGreatDoor
open Go.RowKit Go.Maps Go.Shelf

abbrev Ent := ByteArray × ByteArray
def ltB (a b : ByteArray) : Bool := Op.bytesLess a.toList b.toList
def entCells (l : List Ent) : List Value := l.flatMap fun q => [.string q.1, .string q.2]
theorem entCells_len (l : List Ent) : (entCells l).length = l.length * 2 := by
  induction l with
  | nil => rfl
  | cons q L ih => unfold entCells at ih ⊢; rw [List.flatMap_cons, List.length_append, ih]; simp; omega
theorem entCells_get : ∀ (l : List Ent) (i : Nat) (h : i < l.length), (entCells l)[i * 2]? = some (.string l[i].1) ∧ (entCells l)[i * 2 + 1]? = some (.string l[i].2)
  | p :: r, 0, _ => by simp [entCells]
  | p :: r, i + 1, h => by
    have ih := entCells_get r i (by simpa using h)
    have e : entCells (p :: r) = .string p.1 :: .string p.2 :: entCells r := by simp [entCells]
    rw [e, show (i + 1) * 2 = i * 2 + 1 + 1 by omega]
    simpa [Nat.add_assoc] using ih
theorem entCells_append (l m : List Ent) : entCells (l ++ m) = entCells l ++ entCells m := by simp [entCells]
theorem entCells_one (l : List Ent) : ∀ u ∈ entCells l, u.oneCell' = true := by
  intro u hu
  obtain ⟨q, _, hq⟩ := List.mem_flatMap.1 hu
  simp at hq
  rcases hq with rfl | rfl <;> rfl
theorem entCells_take (l : List Ent) (k : Nat) : entCells (l.take k) = (entCells l).take (k * 2) := by
  by_cases h : k ≤ l.length
  · conv => rhs; rw [← List.take_append_drop k l, entCells_append]
    rw [List.take_left' (by rw [entCells_len, List.length_take]; omega)]
  · rw [List.take_of_length_le (by omega), List.take_of_length_le (by rw [entCells_len]; omega)]
theorem entCells_drop (l : List Ent) (k : Nat) : entCells (l.drop k) = (entCells l).drop (k * 2) := by
  by_cases h : k ≤ l.length
  · conv => rhs; rw [← List.take_append_drop k l, entCells_append]
    rw [List.drop_left' (by rw [entCells_len, List.length_take]; omega)]
  · rw [List.drop_of_length_le (by omega), List.drop_of_length_le (by rw [entCells_len]; omega)]; rfl

/-! ### a page -/
def lSum (l : List Ent) : Nat := (l.map fun q => 2 + q.1.size + q.2.size).sum
def lSize (l : List Ent) : Nat := 2 + lSum l
theorem lSum_append (l m : List Ent) : lSum (l ++ m) = lSum l + lSum m := by simp [lSum]
theorem lSum_succ (l : List Ent) {k : Nat} (h : k < l.length) : lSum (l.take (k + 1)) = lSum (l.take k) + (2 + l[k].1.size + l[k].2.size) := by
  rw [List.take_succ_eq_append_getElem h, lSum_append]; simp [lSum]
theorem lSum_take_le (l : List Ent) (k : Nat) : lSum (l.take k) ≤ lSum l := by
  conv => rhs; rw [← List.take_append_drop k l, lSum_append]
  omega
theorem lSum_len (l : List Ent) : 2 * l.length ≤ lSum l := by
  induction l with
  | nil => simp [lSum]
  | cons q r ih => simp only [lSum, List.map_cons, List.sum_cons, List.length_cons] at ih ⊢; omega
def inB (q : Ent) : Bool := decide (q.1.size ≤ 32) && decide (q.2.size ≤ 64)
def ascB : List Ent → Bool
  | [] => true
  | [_] => true
  | a :: b :: r => ltB a.1 b.1 && ascB (b :: r)
theorem ascB_get : ∀ {l : List Ent}, ascB l = true → ∀ i (h : i + 1 < l.length), ltB (l[i]'(by omega)).1 l[i + 1].1 = true
  | [], _, _, h => by simp at h
  | [_], _, _, h => by simp at h
  | a :: b :: r, hh, 0, h => by simp [ascB] at hh; exact hh.1
  | a :: b :: r, hh, i + 1, h => by simp [ascB] at hh; exact ascB_get hh.2 i (by simpa using h)
/-- is a list one that a page of a kind may hold? -/
def okB (kind : Nat) (l : List Ent) : Bool := (kind == 1 || kind == 2) && (l.all inB && (ascB l && decide (lSize l ≤ 256)))
structure Fine (kind : Nat) (l : List Ent) : Prop where
  kind : kind = 1 ∨ kind = 2
  all : ∀ q ∈ l, q.1.size ≤ 32 ∧ q.2.size ≤ 64
  asc : ascB l = true
  size : lSize l ≤ 256
theorem okB_fine {kind : Nat} {l : List Ent} : okB kind l = true ↔ Fine kind l := by
  constructor
  · intro h
    simp [okB, inB, List.all_eq_true] at h
    exact ⟨h.1, fun q hq => h.2.1 q.1 q.2 hq, h.2.2.1, h.2.2.2⟩
  · intro h
    simp [okB, inB, List.all_eq_true]
    exact ⟨h.kind, fun a b hq => h.all (a, b) hq, h.asc, h.size⟩
theorem Fine.len {kind : Nat} {l : List Ent} (h : Fine kind l) : l.length ≤ 127 := by
  have := lSum_len l
  have := h.size
  unfold lSize at this
  omega
def recB (q : Ent) : ByteArray := (⟨#[UInt8.ofNat q.1.size]⟩ ++ q.1) ++ (⟨#[UInt8.ofNat q.2.size]⟩ ++ q.2)
def recsB (l : List Ent) : ByteArray := l.foldr (fun q s => recB q ++ s) ⟨#[]⟩
def rawB (kind : Nat) (l : List Ent) : ByteArray := ⟨#[UInt8.ofNat kind, UInt8.ofNat l.length]⟩ ++ recsB l
def packB (kind : Nat) (l : List Ent) : ByteArray := padB (rawB kind l) 256
theorem recB_size (q : Ent) : (recB q).size = 2 + q.1.size + q.2.size := by
  unfold recB
  simp only [ByteArray.size_append]
  have h1 : (⟨#[UInt8.ofNat q.1.size]⟩ : ByteArray).size = 1 := rfl
  have h2 : (⟨#[UInt8.ofNat q.2.size]⟩ : ByteArray).size = 1 := rfl
  omega
theorem recsB_cons (q : Ent) (l : List Ent) : recsB (q :: l) = recB q ++ recsB l := rfl
theorem recsB_append (l m : List Ent) : recsB (l ++ m) = recsB l ++ recsB m := by
  induction l with
  | nil => exact (ByteArray.empty_append (b := recsB m)).symm
  | cons q r ih => rw [List.cons_append, recsB_cons, recsB_cons, ih, ByteArray.append_assoc]
theorem recsB_size (l : List Ent) : (recsB l).size = lSum l := by
  induction l with
  | nil => rfl
  | cons q r ih => rw [recsB_cons, ByteArray.size_append, ih, recB_size]; simp [lSum]
theorem rawB_size (kind : Nat) (l : List Ent) : (rawB kind l).size = lSize l := by
  unfold rawB lSize
  rw [ByteArray.size_append, recsB_size]; rfl
theorem packB_size {kind : Nat} {l : List Ent} (h : lSize l ≤ 256) : (packB kind l).size = 256 := padB_size (by rw [rawB_size]; exact h)
theorem recsB_succ (l : List Ent) {k : Nat} (h : k < l.length) : recsB (l.take (k + 1)) = recsB (l.take k) ++ recB l[k] := by
  rw [List.take_succ_eq_append_getElem h, recsB_append]
  exact congrArg (recsB (l.take k) ++ ·) (ByteArray.append_empty (b := recB l[k]))
/-- a page about its k-th entry -/
theorem packB_split (kind : Nat) (l : List Ent) {k : Nat} (h : k < l.length) : ∃ post, packB kind l = (⟨#[UInt8.ofNat kind, UInt8.ofNat l.length]⟩ ++ recsB (l.take k)) ++ (recB l[k] ++ post) := by
  refine ⟨recsB (l.drop (k + 1)) ++ zerosB (256 - (rawB kind l).size), ?_⟩
  have hl : recsB l = recsB (l.take k) ++ (recB l[k] ++ recsB (l.drop (k + 1))) := by
    conv => lhs; rw [← List.take_append_drop k l, List.drop_eq_getElem_cons h, recsB_append, recsB_cons]
  unfold packB padB
  generalize 256 - (rawB kind l).size = z
  unfold rawB
  rw [hl]
  simp only [ByteArray.append_assoc]
end Go.Proofs.YtmgcaohpbaiiaaaGreatDoor
