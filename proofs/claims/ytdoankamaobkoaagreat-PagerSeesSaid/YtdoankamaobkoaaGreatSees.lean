/- What PagerSees asks of the plain pager: the texts that are stored. -/
import Derived.Test.YtdoankamaobkoaaGreatView
set_option linter.unusedSimpArgs false
set_option linter.unusedVariables false
namespace Go.Proofs.YtdoankamaobkoaaGreat
open Go.RowKit Go.Maps Go.Shelf

/-- the texts that are stored, by their pages' numbers -/
def storedL (l : Pgs) : List ByteArray := (List.range 70).map fun (i : Nat) => (get (i : Int) l).getD ⟨#[]⟩
theorem storedL_length (l : Pgs) : (storedL l).length = 70 := by simp [storedL]
theorem storedL_at (l : Pgs) {k : Nat} (h : k < 70) : (storedL l)[k]? = some ((get (k : Int) l).getD ⟨#[]⟩) := by
  unfold storedL
  rw [List.getElem?_map, List.getElem?_range h]; rfl
theorem storedL_nil : storedL [] = List.replicate 70 ⟨#[]⟩ := by decide
theorem storedL_ins (l : Pgs) {k : Nat} (h : k < 70) (s : ByteArray) : storedL (ins (k : Int) s l) = (storedL l).set k s := by
  apply List.ext_getElem?
  intro j
  rw [List.getElem?_set]
  by_cases hj : j < 70
  · rw [storedL_at _ hj]
    by_cases e : k = j
    · subst e
      rw [if_pos rfl, if_pos (by rw [storedL_length]; exact h), get_ins_same]; rfl
    · rw [if_neg e, storedL_at _ hj, get_ins_other (by omega)]
  · have e1 : (storedL (ins (k : Int) s l))[j]? = none := List.getElem?_eq_none (by rw [storedL_length]; omega)
    have e2 : (storedL l)[j]? = none := List.getElem?_eq_none (by rw [storedL_length]; omega)
    rw [e1, e2, if_neg (by omega)]
theorem sees_new {room : Int} (r1 : 1 ≤ room) (r2 : room ≤ 1024) : Sees (newPgr (newDsk 70) room) 70 room 0 0 ∧ (newPgr (newDsk 70) room).Ok :=
  ⟨⟨by intro q hq; simp [newPgr] at hq, ⟨rfl, rfl⟩, by simp [newPgr, newDsk, Dsk.n], rfl, Int.le_refl _, Int.le_refl _, by intro q hq; simp [newPgr] at hq, Int.le_refl _⟩, newPgr_ok r1 r2 (by simp [newDsk]) (by simp [newDsk, zerosB_size])⟩
/-- no held page is changed -/
theorem held_apart {S : Pgr} (hok : S.Ok) {a b : Int} (ha : a ∈ S.held.map (·.1)) (hb : b ∈ S.changed.map (·.1)) : a ≠ b := by
  rintro rfl
  obtain ⟨q, hq, rfl⟩ := List.mem_map.1 ha
  obtain ⟨t, ht, e⟩ := List.mem_map.1 hb
  have := hok.apart q hq
  exact get_none this t ht e
end Go.Proofs.YtdoankamaobkoaaGreat
