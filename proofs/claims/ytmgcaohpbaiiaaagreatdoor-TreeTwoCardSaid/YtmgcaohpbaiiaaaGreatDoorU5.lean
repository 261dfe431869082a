/- The order of texts; lists of entries in order, as filters · The better side of a cut: neither side holds more than half and half an entry · A tree as plain data, indexed by how deep it is; what always holds of it; how it lies on pages · What a step does to the pages that are taken · A page is written again: it fits, or it is cut. -/
import Derived.Test.YtmgcaohpbaiiaaaGreatDoorU4
namespace Go.Proofs.YtmgcaohpbaiiaaaGreatDoor
/-! TOrd -/
section
set_option linter.unusedSimpArgs false
set_option linter.unusedVariables false
open Go.RowKit Go.Maps Go.Shelf

section
variable {a b c : ByteArray}
theorem ltB_asymm (h : ltB a b = true) : ltB b a = false := by
  rw [ltB_eq] at *
  simp only [decide_eq_true_eq, decide_eq_false_iff_not] at *
  exact List.lt_asymm h
theorem ltB_tri (h : ltB a b = false) (k : ltB b a = false) : a = b := by
  rw [ltB_eq] at *
  simp only [decide_eq_false_iff_not] at *
  have := List.le_antisymm (List.not_lt.1 k) (List.not_lt.1 h)
  cases a; cases b
  simp only [ByteArray.mk.injEq]
  exact Array.toList_inj.1 this
theorem ltB_le_lt (h : ltB b a = false) (k : ltB b c = true) : ltB a c = true := by
  rw [ltB_eq] at *
  simp only [decide_eq_true_eq, decide_eq_false_iff_not] at *
  exact List.lt_of_le_of_lt (List.not_lt.1 h) k
theorem ltB_lt_le (h : ltB a b = true) (k : ltB c b = false) : ltB a c = true := by
  by_cases hh : ltB a c = true
  · exact hh
  · simp only [Bool.not_eq_true] at hh
    have := ltB_le_lt hh h
    rw [k] at this; cases this
theorem ltB_le_le (h : ltB b a = false) (k : ltB c b = false) : ltB c a = false := by
  by_cases hh : ltB c a = true
  · have := ltB_lt_le hh h
    rw [k] at this; cases this
  · simpa using hh
theorem ltB_ne (h : ltB a b = true) : a ≠ b := fun e => by rw [e, ltB_irrefl] at h; cases h
theorem ltB_empty (a : ByteArray) : ltB a ⟨#[]⟩ = false := by
  rw [ltB_eq]
  simp
theorem minB_eq (a b : ByteArray) : minB a b = if ltB b a = true then b else a := by
  unfold minB
  rw [ByteArray.toList_eq, ByteArray.toList_eq]
  by_cases h1 : ltB b a = true
  · have h2 := ltB_asymm h1
    have h3 : ¬ (a.data.toList == b.data.toList) = true := by
      intro e
      have e2 : a.data.toList = b.data.toList := by simpa using e
      rw [ltB_eq, e2] at h1
      simp only [decide_eq_true_eq] at h1
      exact List.lt_irrefl _ h1
    rw [if_pos h1, h2]
    simp only [Bool.not_eq_true] at h3
    rw [h3]; rfl
  · simp only [Bool.not_eq_true] at h1
    have h3 : (ltB a b || a.data.toList == b.data.toList) = true := by
      by_cases h2 : ltB a b = true
      · simp [h2]
      · simp only [Bool.not_eq_true] at h2
        have := ltB_tri h1 h2
        subst this
        simp
    rw [if_pos h3, h1]; rfl
theorem minB_le (a b : ByteArray) : ltB a (minB a b) = false ∧ ltB b (minB a b) = false := by
  rw [minB_eq]
  by_cases h : ltB b a = true
  · rw [if_pos h]
    exact ⟨ltB_asymm h, ltB_irrefl _⟩
  · rw [if_neg h]
    exact ⟨ltB_irrefl _, by simpa using h⟩
theorem minB_or (a b : ByteArray) : minB a b = a ∨ minB a b = b := by
  rw [minB_eq]; split
  · exact .inr rfl
  · exact .inl rfl
end

/-! ### lists of entries in order -/
/-- each key is below those behind it -/
def ascP (l : List Ent) : Prop := l.Pairwise fun p q => ltB p.1 q.1 = true
theorem ascP_of : ∀ {l : List Ent}, ascB l = true → ascP l
  | [], _ => .nil
  | [_], _ => List.pairwise_singleton _ _
  | p :: q :: r, h => by
    simp only [ascB, Bool.and_eq_true] at h
    have ih := ascP_of h.2
    refine .cons (fun x hx => ?_) ih
    rcases List.mem_cons.1 hx with rfl | hx
    · exact h.1
    · exact ltB_trans h.1 (List.rel_of_pairwise_cons ih hx)
theorem ascB_of : ∀ {l : List Ent}, ascP l → ascB l = true
  | [], _ => rfl
  | [_], _ => rfl
  | p :: q :: r, h => by
    simp only [ascB, Bool.and_eq_true]
    exact ⟨List.rel_of_pairwise_cons h (by simp), ascB_of (List.Pairwise.of_cons h)⟩
def putL (l : List Ent) (k v : ByteArray) : List Ent := l.filter (fun q => ltB q.1 k) ++ (k, v) :: l.filter (fun q => ltB k q.1)
def takeL (l : List Ent) (k : ByteArray) : List Ent := l.filter fun q => !decide (q.1 = k)
def fromL (l : List Ent) (k : ByteArray) : List Ent := l.filter fun q => !ltB q.1 k
def hasL (l : List Ent) (k : ByteArray) : Bool := l.any fun q => decide (q.1 = k)
section
variable {l m : List Ent} {k v : ByteArray}
theorem lIx_take (h : ascP l) (k : ByteArray) : l.take (lIx l k) = l.filter (fun q => ltB q.1 k) ∧ l.drop (lIx l k) = fromL l k := by
  unfold lIx fromL
  induction l with
  | nil => exact ⟨rfl, rfl⟩
  | cons q r ih =>
    obtain ⟨i1, i2⟩ := ih (List.Pairwise.of_cons h)
    by_cases hq : ltB q.1 k = true
    · rw [List.countP_cons_of_pos (p := fun q : Ent => ltB q.1 k) hq, List.filter_cons_of_pos (p := fun q : Ent => ltB q.1 k) hq, List.filter_cons_of_neg (by simp [hq])]
      exact ⟨by rw [List.take_succ_cons, i1], by rw [List.drop_succ_cons, i2]⟩
    · simp only [Bool.not_eq_true] at hq
      have hall : ∀ x ∈ r, ltB x.1 k = false := fun x hx => by
        by_cases hh : ltB x.1 k = true
        · have := ltB_trans (List.rel_of_pairwise_cons h hx) hh
          rw [hq] at this; cases this
        · simpa using hh
      have h0 : List.countP (fun q => ltB q.1 k) (q :: r) = 0 := List.countP_eq_zero.2 fun x hx => by
        rcases List.mem_cons.1 hx with rfl | hx
        · simp [hq]
        · simp [hall x hx]
      rw [h0]
      refine ⟨?_, ?_⟩
      · rw [List.take_zero, eq_comm, List.filter_eq_nil_iff]
        intro x hx
        rcases List.mem_cons.1 hx with rfl | hx
        · simp [hq]
        · simp [hall x hx]
      · rw [List.drop_zero, eq_comm, List.filter_eq_self]
        intro x hx
        rcases List.mem_cons.1 hx with rfl | hx
        · simp [hq]
        · simp [hall x hx]
theorem fromL_split (h : ascP l) (k : ByteArray) : (hasL l k = true ∧ ∃ v, fromL l k = (k, v) :: l.filter (fun q => ltB k q.1)) ∨ (hasL l k = false ∧ fromL l k = l.filter fun q => ltB k q.1) := by
  unfold fromL hasL
  induction l with
  | nil => exact .inr ⟨rfl, rfl⟩
  | cons q r ih =>
    have hr := List.Pairwise.of_cons h
    by_cases hq : ltB q.1 k = true
    · have h1 := ltB_asymm hq
      have h2 : ¬ q.1 = k := ltB_ne hq
      rcases ih hr with ⟨i1, v, i2⟩ | ⟨i1, i2⟩
      · refine .inl ⟨by simp [h2, i1], v, ?_⟩
        rw [List.filter_cons_of_neg (by simp [hq]), List.filter_cons_of_neg (by simp [h1])]
        exact i2
      · refine .inr ⟨?_, ?_⟩
        · rw [List.any_cons, i1]; simp [h2]
        · rw [List.filter_cons_of_neg (by simp [hq]), List.filter_cons_of_neg (by simp [h1])]
          exact i2
    · simp only [Bool.not_eq_true] at hq
      have hb : ∀ x ∈ r, ltB k x.1 = true := fun x hx => ltB_le_lt hq (List.rel_of_pairwise_cons h hx)
      have e1 : r.filter (fun q => !ltB q.1 k) = r := List.filter_eq_self.2 fun x hx => by simp [ltB_asymm (hb x hx)]
      have e2 : r.filter (fun q => ltB k q.1) = r := List.filter_eq_self.2 fun x hx => hb x hx
      by_cases he : q.1 = k
      · refine .inl ⟨by simp [he], q.2, ?_⟩
        rw [List.filter_cons_of_pos (by simp [hq]), List.filter_cons_of_neg (by rw [he, ltB_irrefl]; simp), e1, e2, ← he]
      · have h3 : ltB k q.1 = true := by
          by_cases hh : ltB k q.1 = true
          · exact hh
          · exact absurd (ltB_tri hq (by simpa using hh)) he
        refine .inr ⟨?_, ?_⟩
        · rw [List.any_eq_false]
          intro x hx
          rcases List.mem_cons.1 hx with rfl | hx
          · simp [he]
          · have := ltB_ne (hb x hx)
            simp only [decide_eq_true_eq]
            exact fun e => this e.symm
        · rw [List.filter_cons_of_pos (by simp [hq]), List.filter_cons_of_pos (by simp [h3]), e1, e2]
theorem lHas_eq (h : ascP l) (k : ByteArray) : lHas l k = hasL l k := by
  have h1 := (lIx_take h k).2
  have h2 : l[lIx l k]? = (fromL l k)[0]? := by rw [← h1]; simp
  unfold lHas
  rw [h2]
  rcases fromL_split h k with ⟨i1, v, i2⟩ | ⟨i1, i2⟩
  · rw [i1, i2]; simp
  · rw [i1, i2]
    cases hx : (l.filter fun q => ltB k q.1)[0]? with
    | none => rfl
    | some x =>
      have := List.mem_of_getElem? hx
      have h3 := (List.mem_filter.1 this).2
      simp only [decide_eq_false_iff_not]
      exact fun e => ltB_ne h3 e.symm
theorem drop_succ_from (h : ascP l) (k : ByteArray) (hh : hasL l k = true) : l.drop (lIx l k + 1) = l.filter fun q => ltB k q.1 := by
  have h1 := (lIx_take h k).2
  rcases fromL_split h k with ⟨i1, v, i2⟩ | ⟨i1, i2⟩
  · rw [← List.drop_drop, h1, i2]; rfl
  · rw [hh] at i1; cases i1
theorem lPut_eq (h : ascP l) (k v : ByteArray) : lPut l k v = putL l k v := by
  obtain ⟨h1, h2⟩ := lIx_take h k
  unfold lPut putL
  rw [lHas_eq h]
  by_cases hh : hasL l k = true
  · rw [if_pos hh]
    unfold repL
    rw [h1, drop_succ_from h k hh]
    simp
  · rw [if_neg hh]
    unfold insL
    rcases fromL_split h k with ⟨i1, v, i2⟩ | ⟨i1, i2⟩
    · exact absurd i1 hh
    · rw [h1, h2, i2]
      simp
theorem takeL_eq (h : ascP l) (k : ByteArray) : takeL l k = l.filter (fun q => ltB q.1 k) ++ l.filter fun q => ltB k q.1 := by
  unfold takeL
  induction l with
  | nil => rfl
  | cons q r ih =>
    have hr := List.Pairwise.of_cons h
    by_cases hq : ltB q.1 k = true
    · rw [List.filter_cons_of_pos (by simp [ltB_ne hq]), List.filter_cons_of_pos (p := fun q : Ent => ltB q.1 k) hq, List.filter_cons_of_neg (by simp [ltB_asymm hq]), List.cons_append, ih hr]
    · simp only [Bool.not_eq_true] at hq
      have hb : ∀ x ∈ r, ltB k x.1 = true := fun x hx => ltB_le_lt hq (List.rel_of_pairwise_cons h hx)
      have e1 : r.filter (fun q => !decide (q.1 = k)) = r := List.filter_eq_self.2 fun x hx => by
        have := ltB_ne (hb x hx)
        simp only [Bool.not_eq_true', decide_eq_false_iff_not]
        exact fun e => this e.symm
      have e2 : r.filter (fun q => ltB k q.1) = r := List.filter_eq_self.2 fun x hx => hb x hx
      have e3 : r.filter (fun q => ltB q.1 k) = [] := List.filter_eq_nil_iff.2 fun x hx => by simp [ltB_asymm (hb x hx)]
      rw [List.filter_cons_of_neg (p := fun q : Ent => ltB q.1 k) (by simp [hq]), e3, List.nil_append]
      by_cases he : q.1 = k
      · rw [List.filter_cons_of_neg (by simp [he]), List.filter_cons_of_neg (by rw [he, ltB_irrefl]; simp), e1, e2]
      · have h3 : ltB k q.1 = true := by
          by_cases hh : ltB k q.1 = true
          · exact hh
          · exact absurd (ltB_tri hq (by simpa using hh)) he
        rw [List.filter_cons_of_pos (by simp [he]), List.filter_cons_of_pos (p := fun q : Ent => ltB k q.1) h3, e1, e2]
theorem lTake_eq (h : ascP l) (k : ByteArray) : lTake l k = takeL l k := by
  obtain ⟨h1, h2⟩ := lIx_take h k
  unfold lTake
  rw [lHas_eq h]
  by_cases hh : hasL l k = true
  · rw [if_pos hh, h1, drop_succ_from h k hh, takeL_eq h]
  · rw [if_neg hh]
    unfold takeL hasL at *
    rw [eq_comm, List.filter_eq_self]
    simp only [Bool.not_eq_true, List.any_eq_false, decide_eq_true_eq] at hh
    intro x hx
    simp [hh x hx]
theorem putL_asc (h : ascP l) (k v : ByteArray) : ascP (putL l k v) := by
  unfold ascP putL
  rw [List.pairwise_append]
  refine ⟨List.Pairwise.filter _ h, .cons (fun x hx => ?_) (List.Pairwise.filter _ h), fun x hx y hy => ?_⟩
  · exact (List.mem_filter.1 hx).2
  · have h1 := (List.mem_filter.1 hx).2
    rcases List.mem_cons.1 hy with rfl | hy
    · exact h1
    · exact ltB_trans h1 (List.mem_filter.1 hy).2
theorem takeL_asc (h : ascP l) (k : ByteArray) : ascP (takeL l k) := List.Pairwise.filter _ h
theorem putL_mem {q : Ent} (h : q ∈ putL l k v) : q = (k, v) ∨ q ∈ l := by
  unfold putL at h
  rcases List.mem_append.1 h with h | h
  · exact .inr (List.mem_filter.1 h).1
  · rcases List.mem_cons.1 h with h | h
    · exact .inl h
    · exact .inr (List.mem_filter.1 h).1
theorem takeL_mem {q : Ent} (h : q ∈ takeL l k) : q ∈ l := (List.mem_filter.1 h).1
/-- what lies ahead and behind stays -/
theorem putL_mid {x y z : List Ent} (hx : ∀ q ∈ x, ltB q.1 k = true) (hz : ∀ q ∈ z, ltB k q.1 = true) : putL (x ++ y ++ z) k v = x ++ putL y k v ++ z := by
  unfold putL
  have e1 : x.filter (fun q => ltB q.1 k) = x := List.filter_eq_self.2 hx
  have e2 : x.filter (fun q => ltB k q.1) = [] := List.filter_eq_nil_iff.2 fun q hq => by simp [ltB_asymm (hx q hq)]
  have e3 : z.filter (fun q => ltB q.1 k) = [] := List.filter_eq_nil_iff.2 fun q hq => by simp [ltB_asymm (hz q hq)]
  have e4 : z.filter (fun q => ltB k q.1) = z := List.filter_eq_self.2 hz
  simp [List.filter_append, e1, e2, e3, e4]
theorem takeL_mid {x y z : List Ent} (hx : ∀ q ∈ x, ltB q.1 k = true) (hz : ∀ q ∈ z, ltB k q.1 = true) : takeL (x ++ y ++ z) k = x ++ takeL y k ++ z := by
  unfold takeL
  have e1 : x.filter (fun q => !decide (q.1 = k)) = x := List.filter_eq_self.2 fun q hq => by simp [ltB_ne (hx q hq)]
  have e2 : z.filter (fun q => !decide (q.1 = k)) = z := List.filter_eq_self.2 fun q hq => by
    simp only [Bool.not_eq_true', decide_eq_false_iff_not]
    exact fun e => ltB_ne (hz q hq) e.symm
  simp [List.filter_append, e1, e2]
theorem hasL_mid {x y z : List Ent} (hx : ∀ q ∈ x, ltB q.1 k = true) (hz : ∀ q ∈ z, ltB k q.1 = true) : hasL (x ++ y ++ z) k = hasL y k := by
  unfold hasL
  have e1 : x.any (fun q => decide (q.1 = k)) = false := List.any_eq_false.2 fun q hq => by simp [ltB_ne (hx q hq)]
  have e2 : z.any (fun q => decide (q.1 = k)) = false := List.any_eq_false.2 fun q hq => by
    simp only [decide_eq_true_eq]
    exact fun e => ltB_ne (hz q hq) e.symm
  simp [List.any_append, e1, e2]
theorem fromL_mid {x y z : List Ent} (hx : ∀ q ∈ x, ltB q.1 k = true) (hz : ∀ q ∈ z, ltB k q.1 = true) : fromL (x ++ y ++ z) k = fromL y k ++ z := by
  unfold fromL
  have e1 : x.filter (fun q => !ltB q.1 k) = [] := List.filter_eq_nil_iff.2 fun q hq => by simp [hx q hq]
  have e2 : z.filter (fun q => !ltB q.1 k) = z := List.filter_eq_self.2 fun q hq => by simp [ltB_asymm (hz q hq)]
  simp [List.filter_append, e1, e2]
theorem putL_len (h : ascP l) (k v : ByteArray) : (putL l k v).length ≤ l.length + 1 := by
  rw [← lPut_eq h]
  unfold lPut
  split
  · rename_i hh
    obtain ⟨hi, -⟩ := lHas_at hh
    rw [repL_length _ hi]; omega
  · unfold insL
    have := lIx_le l k
    simp; omega
end
end
/-! TBal -/
section
set_option linter.unusedSimpArgs false
set_option linter.unusedVariables false
open Go.RowKit Go.Maps Go.Shelf

def cutMx (l : List Ent) (i : Nat) : Int := max (lSum (l.take i) : Int) ((lSum l : Int) - lSum (l.take i))
theorem cutTo_least (l : List Ent) : ∀ k, (cutTo l (k + 1)).2 = cutMx l (cutTo l (k + 1)).1 ∧ ∀ i, 1 ≤ i → i ≤ k + 1 → (cutTo l (k + 1)).2 ≤ cutMx l i
  | 0 => by
    have e : cutTo l 1 = (1, cutMx l 1) := by
      show cutStep l (1, -1) 1 = _
      unfold cutStep
      rw [if_pos (.inl (by decide))]
      rfl
    rw [e]
    refine ⟨rfl, fun i h1 h2 => ?_⟩
    obtain rfl : i = 1 := by omega
    exact Int.le_refl _
  | k + 1 => by
    obtain ⟨i1, i2⟩ := cutTo_least l k
    have hs : cutTo l (k + 1 + 1) = cutStep l (cutTo l (k + 1)) (k + 1 + 1) := rfl
    rw [hs]
    unfold cutStep
    split
    · rename_i hc
      refine ⟨rfl, fun i h1 h2 => ?_⟩
      show cutMx l (k + 1 + 1) ≤ _
      by_cases hi : i ≤ k + 1
      · have h3 := i2 i h1 hi
        rcases hc with hc | hc
        · have h4 : 0 ≤ cutMx l (cutTo l (k + 1)).1 := by unfold cutMx; omega
          omega
        · have : cutMx l (k + 1 + 1) < (cutTo l (k + 1)).2 := hc
          omega
      · obtain rfl : i = k + 1 + 1 := by omega
        exact Int.le_refl _
    · rename_i hc
      refine ⟨i1, fun i h1 h2 => ?_⟩
      by_cases hi : i ≤ k + 1
      · exact i2 i h1 hi
      · obtain rfl : i = k + 1 + 1 := by omega
        have h5 : ¬ (cutMx l (k + 1 + 1) < (cutTo l (k + 1)).2) := fun h => hc (.inr h)
        omega
theorem lSum_split (l : List Ent) (i : Nat) : lSum (l.take i) + lSum (l.drop i) = lSum l := by rw [← lSum_append, List.take_append_drop]
theorem lSum_le (l : List Ent) (e : Nat) (h : ∀ q ∈ l, 2 + q.1.size + q.2.size ≤ e) : lSum l ≤ e * l.length := by
  induction l with
  | nil => simp [lSum]
  | cons q r ih =>
    have h1 := h q (by simp)
    have h2 := ih fun x hx => h x (by simp [hx])
    have : lSum (q :: r) = (2 + q.1.size + q.2.size) + lSum r := by simp [lSum]
    rw [this, List.length_cons, Nat.mul_succ]
    omega
theorem bal_at (l : List Ent) (e : Nat) (h : ∀ q ∈ l, 2 + q.1.size + q.2.size ≤ e) (hT : e < lSum l) : ∃ i, 1 ≤ i ∧ i + 1 ≤ l.length ∧ 2 * cutMx l i ≤ (lSum l : Int) + e := by
  have key : ∀ k, k ≤ l.length → (∃ i, 1 ≤ i ∧ i + 1 ≤ l.length ∧ 2 * cutMx l i ≤ (lSum l : Int) + e) ∨ 2 * lSum (l.take k) + e < lSum l := by
    intro k
    induction k with
    | zero => intro _; right; simp [lSum]; simp [lSum] at hT; omega
    | succ k ih =>
      intro hk
      rcases ih (by omega) with h1 | h1
      · exact .inl h1
      · have hs := lSum_succ l (show k < l.length by omega)
        have hb := h _ (List.getElem_mem (show k < l.length by omega))
        by_cases h2 : 2 * lSum (l.take (k + 1)) + e < lSum l
        · exact .inr h2
        · left
          refine ⟨k + 1, by omega, ?_, ?_⟩
          · by_cases h3 : k + 1 + 1 ≤ l.length
            · exact h3
            · have h4 : l.take (k + 1) = l := List.take_of_length_le (by omega)
              rw [h4] at hs
              omega
          · unfold cutMx
            omega
  rcases key l.length (Nat.le_refl _) with h1 | h1
  · exact h1
  · rw [List.take_length] at h1
    omega
theorem lCut_bal (l : List Ent) (e : Nat) (h : ∀ q ∈ l, 2 + q.1.size + q.2.size ≤ e) (hT : e < lSum l) :
    2 ≤ l.length ∧ 2 * lSum (l.take (lCut l)) ≤ lSum l + e ∧ 2 * lSum (l.drop (lCut l)) ≤ lSum l + e := by
  obtain ⟨i, h1, h2, h3⟩ := bal_at l e h hT
  have h4 : ∃ k, l.length - 1 = k + 1 := ⟨l.length - 2, by omega⟩
  obtain ⟨k, hk⟩ := h4
  obtain ⟨c1, c2⟩ := cutTo_least l k
  have h5 := c2 i h1 (by omega)
  rw [c1] at h5
  have h6 := lSum_split l (lCut l)
  have h7 : cutMx l (lCut l) ≤ cutMx l i := by unfold lCut; rw [hk]; exact h5
  have h8 : (lSum (l.take (lCut l)) : Int) ≤ cutMx l (lCut l) := by unfold cutMx; omega
  have h9 : (lSum l : Int) - lSum (l.take (lCut l)) ≤ cutMx l (lCut l) := by unfold cutMx; omega
  refine ⟨by omega, by omega, by omega⟩
/-- a branch's list that is cut leaves four entries on each side -/
theorem lCut_four (l : List Ent) (h : ∀ q ∈ l, 2 + q.1.size + q.2.size ≤ 36) (hT : 254 < lSum l) : 4 ≤ (l.take (lCut l)).length ∧ 4 ≤ (l.drop (lCut l)).length := by
  obtain ⟨-, h1, h2⟩ := lCut_bal l 36 h (by omega)
  have h3 := lSum_split l (lCut l)
  have h4 := lSum_le (l.take (lCut l)) 36 fun q hq => h q (List.mem_of_mem_take hq)
  have h5 := lSum_le (l.drop (lCut l)) 36 fun q hq => h q (List.mem_of_mem_drop hq)
  omega
end
/-! TTr -/
section
set_option linter.unusedSimpArgs false
set_option linter.unusedVariables false
open Go.RowKit Go.Maps Go.Shelf

/-- what a list of a page holds: at a leaf entries, above them keys and pages -/
@[reducible] def Bd : Nat → Type
  | 0 => ByteArray × ByteArray
  | d + 1 => ByteArray × (Nat × List (Bd d))
def kd : Nat → Nat
  | 0 => 1
  | _ + 1 => 2
def bdE : (d : Nat) → Bd d → Ent
  | 0, e => e
  | _ + 1, c => (c.1, nmB c.2.1)
def bdK : (d : Nat) → Bd d → ByteArray
  | 0, e => e.1
  | _ + 1, c => c.1
/-- the entries below -/
def flB : (d : Nat) → Bd d → List Ent
  | 0, e => [e]
  | d + 1, c => c.2.2.flatMap (flB d)
/-- the pages below -/
def pgB : (d : Nat) → Bd d → List Nat
  | 0, _ => []
  | d + 1, c => c.2.1 :: c.2.2.flatMap (pgB d)
/-- the keys below, its own with them -/
def ksB : (d : Nat) → Bd d → List ByteArray
  | 0, e => [e.1]
  | d + 1, c => c.1 :: c.2.2.flatMap (ksB d)
/-- how strong: the bytes of the entries below; a page counts for as much as a cut leaves at its depth -/
def stB : (d : Nat) → Bd d → Nat
  | 0, e => 2 + e.1.size + e.2.size
  | d + 1, c => max (78 * 4 ^ d) ((c.2.2.map (stB d)).sum)
def ltK (d : Nat) (a b : Bd d) : Prop := ∀ y ∈ ksB d a, ltB y (bdK d b) = true
def GoodB : (d : Nat) → Bd d → Prop
  | 0, e => e.1.size ≠ 0
  | d + 1, c => c.2.2 ≠ [] ∧ okB (kd d) (c.2.2.map (bdE d)) = true ∧ (∀ y ∈ c.2.2.flatMap (ksB d), ltB y c.1 = false) ∧ c.2.2.Pairwise (ltK d) ∧ ∀ b ∈ c.2.2, GoodB d b
def LiesB (S : TS) : (d : Nat) → Bd d → Prop
  | 0, _ => True
  | d + 1, c => S.pg c.2.1 = some (kd d, c.2.2.map (bdE d)) ∧ ∀ b ∈ c.2.2, LiesB S d b
/-- a page's list -/
structure GoodL (d : Nat) (L : List (Bd d)) : Prop where
  lt : L.Pairwise (ltK d)
  all : ∀ b ∈ L, GoodB d b
def flL (d : Nat) (L : List (Bd d)) : List Ent := L.flatMap (flB d)
def pgL (d : Nat) (L : List (Bd d)) : List Nat := L.flatMap (pgB d)
def ksL (d : Nat) (L : List (Bd d)) : List ByteArray := L.flatMap (ksB d)
def enL (d : Nat) (L : List (Bd d)) : List Ent := L.map (bdE d)
def stL (d : Nat) (L : List (Bd d)) : Nat := (L.map (stB d)).sum
def LiesL (S : TS) (d : Nat) (L : List (Bd d)) : Prop := ∀ b ∈ L, LiesB S d b
section
variable {d : Nat} {L M : List (Bd d)} {b c : Bd d}
theorem GoodB_succ {c : Bd (d + 1)} : GoodB (d + 1) c ↔ c.2.2 ≠ [] ∧ okB (kd d) (enL d c.2.2) = true ∧ (∀ y ∈ ksL d c.2.2, ltB y c.1 = false) ∧ GoodL d c.2.2 := by
  show (c.2.2 ≠ [] ∧ okB (kd d) (c.2.2.map (bdE d)) = true ∧ (∀ y ∈ c.2.2.flatMap (ksB d), ltB y c.1 = false) ∧ c.2.2.Pairwise (ltK d) ∧ ∀ b ∈ c.2.2, GoodB d b) ↔ _
  exact ⟨fun ⟨h1, h2, h3, h4, h5⟩ => ⟨h1, h2, h3, h4, h5⟩, fun ⟨h1, h2, h3, h4, h5⟩ => ⟨h1, h2, h3, h4, h5⟩⟩
theorem bdE_fst : ∀ {d : Nat} (b : Bd d), (bdE d b).1 = bdK d b
  | 0, _ => rfl
  | _ + 1, _ => rfl
theorem bdK_mem : ∀ {d : Nat} (b : Bd d), bdK d b ∈ ksB d b
  | 0, _ => List.mem_singleton.2 rfl
  | _ + 1, _ => List.mem_cons_self
theorem ks_ge : ∀ {d : Nat} {b : Bd d}, GoodB d b → ∀ y ∈ ksB d b, ltB y (bdK d b) = false
  | 0, b, _, y, hy => by
    have : y = b.1 := List.mem_singleton.1 hy
    rw [this]; exact ltB_irrefl _
  | d + 1, c, h, y, hy => by
    rcases List.mem_cons.1 hy with rfl | hy
    · exact ltB_irrefl _
    · exact h.2.2.1 y hy
theorem fl_ks : ∀ {d : Nat} {b : Bd d} {q : Ent}, q ∈ flB d b → q.1 ∈ ksB d b
  | 0, b, q, h => by
    have : q = b := List.mem_singleton.1 h
    rw [this]; exact List.mem_singleton.2 rfl
  | d + 1, c, q, h => by
    obtain ⟨b, hb, hq⟩ := List.mem_flatMap.1 h
    exact List.mem_cons_of_mem _ (List.mem_flatMap.2 ⟨b, hb, fl_ks hq⟩)
theorem flL_ks {q : Ent} (h : q ∈ flL d L) : q.1 ∈ ksL d L := by
  obtain ⟨b, hb, hq⟩ := List.mem_flatMap.1 h
  exact List.mem_flatMap.2 ⟨b, hb, fl_ks hq⟩
theorem ltK_le {a b : Bd d} (h : ltK d a b) (hb : GoodB d b) {x y : ByteArray} (hx : x ∈ ksB d a) (hy : y ∈ ksB d b) : ltB x y = true := ltB_lt_le (h x hx) (ks_ge hb y hy)
theorem enL_asc (h : GoodL d L) : ascP (enL d L) := by
  unfold ascP enL
  rw [List.pairwise_map]
  refine h.lt.imp fun {a b} hab => ?_
  rw [bdE_fst, bdE_fst]
  exact hab _ (bdK_mem a)
theorem flL_asc : ∀ {d : Nat} {L : List (Bd d)}, GoodL d L → ascP (flL d L)
  | 0, L, h => by
    have : flL 0 L = L := by
      unfold flL
      have e : flB 0 = fun e : Bd 0 => [e] := rfl
      rw [e]
      simp
    rw [this]
    exact h.lt.imp fun {a b} hab => hab _ (List.mem_singleton.2 rfl)
  | d + 1, L, h => by
    unfold ascP flL
    rw [List.pairwise_flatMap]
    refine ⟨fun c hc => flL_asc (GoodB_succ.1 (h.all c hc)).2.2.2, h.lt.imp_of_mem fun {a b} ha hb hab x hx y hy => ?_⟩
    exact ltK_le hab (h.all b hb) (fl_ks hx) (fl_ks hy)
theorem flL_zero (L : List (Bd 0)) : flL 0 L = L := by
  unfold flL
  have e : flB 0 = fun e : Bd 0 => [e] := rfl
  rw [e]; simp
theorem enL_zero (L : List (Bd 0)) : enL 0 L = L := by
  unfold enL
  have e : bdE 0 = fun e : Bd 0 => e := rfl
  rw [e]; simp
theorem flL_append : flL d (L ++ M) = flL d L ++ flL d M := List.flatMap_append
theorem pgL_append : pgL d (L ++ M) = pgL d L ++ pgL d M := List.flatMap_append
theorem ksL_append : ksL d (L ++ M) = ksL d L ++ ksL d M := List.flatMap_append
theorem enL_append : enL d (L ++ M) = enL d L ++ enL d M := List.map_append
theorem flL_cons : flL d (b :: L) = flB d b ++ flL d L := List.flatMap_cons
theorem pgL_cons : pgL d (b :: L) = pgB d b ++ pgL d L := List.flatMap_cons
theorem ksL_cons : ksL d (b :: L) = ksB d b ++ ksL d L := List.flatMap_cons
theorem enL_cons : enL d (b :: L) = bdE d b :: enL d L := rfl
theorem flB_succ {c : Bd (d + 1)} : flB (d + 1) c = flL d c.2.2 := rfl
theorem pgB_succ {c : Bd (d + 1)} : pgB (d + 1) c = c.2.1 :: pgL d c.2.2 := rfl
theorem ksB_succ {c : Bd (d + 1)} : ksB (d + 1) c = c.1 :: ksL d c.2.2 := rfl
theorem stL_append : stL d (L ++ M) = stL d L + stL d M := by unfold stL; rw [List.map_append, List.sum_append]
theorem stL_cons : stL d (b :: L) = stB d b + stL d L := rfl
theorem stL_nil : stL d [] = 0 := rfl
theorem stB_succ {c : Bd (d + 1)} : stB (d + 1) c = max (78 * 4 ^ d) (stL d c.2.2) := rfl
theorem stL_zero (L : List (Bd 0)) : stL 0 L = lSum L := rfl
theorem GoodL.sub_append (h : GoodL d (L ++ M)) : GoodL d L ∧ GoodL d M := by
  obtain ⟨h1, h3⟩ := h
  obtain ⟨b1, b2, -⟩ := List.pairwise_append.1 h1
  exact ⟨⟨b1, fun x hx => h3 x (List.mem_append_left _ hx)⟩, ⟨b2, fun x hx => h3 x (List.mem_append_right _ hx)⟩⟩
theorem okB_iff {k : Nat} {l : List Ent} : okB k l = true ↔ (k = 1 ∨ k = 2) ∧ (∀ q ∈ l, q.1.size ≤ 32 ∧ q.2.size ≤ 64) ∧ ascP l ∧ lSum l ≤ 254 := by
  rw [okB_fine]
  constructor
  · rintro ⟨h1, h2, h3, h4⟩
    refine ⟨h1, h2, ascP_of h3, ?_⟩
    have : lSize l ≤ 256 := h4
    unfold lSize at this
    omega
  · rintro ⟨h1, h2, h3, h4⟩
    exact ⟨h1, h2, ascB_of h3, by show lSize l ≤ 256; unfold lSize; omega⟩
theorem kd_or (d : Nat) : kd d = 1 ∨ kd d = 2 := by
  cases d with
  | zero => exact .inl rfl
  | succ d => exact .inr rfl
/-- the key of the first is at most every key of a list -/
theorem ks_first (h : GoodL d (b :: L)) : ∀ y ∈ ksL d (b :: L), ltB y (bdK d b) = false := by
  intro y hy
  rw [ksL_cons] at hy
  rcases List.mem_append.1 hy with hy | hy
  · exact ks_ge (h.all b (by simp)) y hy
  · obtain ⟨c, hc, hy⟩ := List.mem_flatMap.1 hy
    have h1 := List.rel_of_pairwise_cons h.lt hc
    exact ltB_asymm (ltK_le h1 (h.all c (by simp [hc])) (bdK_mem b) hy)
end
/-! ### the child below which a key lies -/
theorem child_split {d : Nat} {L : List (Bd d)} (h : ascP (enL d L)) (hne : L ≠ []) (key : ByteArray) :
    ∃ A c B, L = A ++ c :: B ∧ cIx (enL d L) key = A.length ∧ (∀ b ∈ B, ltB key (bdK d b) = true) ∧ (A = [] ∨ ltB key (bdK d c) = false) := by
  obtain ⟨h1, h2⟩ := lIx_take h key
  have hle := lIx_le (enL d L) key
  have hlen : (enL d L).length = L.length := by unfold enL; simp
  unfold cIx
  rw [lHas_eq h]
  generalize hj : lIx (enL d L) key = j at *
  have e1 : enL d (L.take j) = (enL d L).take j := by unfold enL; rw [List.map_take]
  have e2 : enL d (L.drop j) = (enL d L).drop j := by unfold enL; rw [List.map_drop]
  have hb : ∀ B : List (Bd d), enL d B = (enL d L).filter (fun q => ltB key q.1) → ∀ b ∈ B, ltB key (bdK d b) = true := by
    intro B hB b hbm
    have : bdE d b ∈ enL d B := List.mem_map_of_mem hbm
    rw [hB] at this
    have := (List.mem_filter.1 this).2
    rwa [bdE_fst] at this
  rcases fromL_split h key with ⟨i1, v, i2⟩ | ⟨i1, i2⟩
  · rw [if_pos i1]
    rw [← h2, ← e2] at i2
    cases hD : L.drop j with
    | nil => rw [hD] at i2; cases i2
    | cons c B =>
      rw [hD, enL_cons, List.cons.injEq] at i2
      refine ⟨L.take j, c, B, ?_, ?_, hb B i2.2, .inr ?_⟩
      · rw [← hD, List.take_append_drop]
      · rw [List.length_take]; omega
      · have : bdK d c = key := by rw [← bdE_fst, i2.1]
        rw [this]; exact ltB_irrefl _
  · rw [if_neg (by rw [i1]; simp)]
    rw [← h2, ← e2] at i2
    by_cases hj0 : j = 0
    · subst hj0
      rw [List.drop_zero] at i2
      cases L with
      | nil => exact absurd rfl hne
      | cons c B =>
        refine ⟨[], c, B, rfl, rfl, fun b hbm => hb (c :: B) i2 b (by simp [hbm]), .inl rfl⟩
    · have hlt : j - 1 < L.length := by omega
      refine ⟨L.take (j - 1), L[j - 1], L.drop j, ?_, ?_, hb _ i2, .inr ?_⟩
      · have : L.drop (j - 1) = L[j - 1] :: L.drop (j - 1 + 1) := List.drop_eq_getElem_cons hlt
        rw [show j - 1 + 1 = j by omega] at this
        rw [← this, List.take_append_drop]
      · rw [List.length_take]; omega
      · have hm : bdE d L[j - 1] ∈ (enL d L).take j := by
          rw [← e1]
          refine List.mem_map_of_mem ?_
          have : L[j - 1] = (L.take j)[j - 1]'(by rw [List.length_take]; omega) := by rw [List.getElem_take]
          rw [this]
          exact List.getElem_mem _
        rw [h1] at hm
        have := (List.mem_filter.1 hm).2
        rw [bdE_fst] at this
        exact ltB_asymm this
end
/-! TExt -/
section
set_option linter.unusedSimpArgs false
set_option linter.unusedVariables false
open Go.RowKit Go.Maps Go.Shelf

/-- as many pages are taken -/
def cntM (m : Nat) (S : TS) : Nat := (List.range m).countP S.used
/-- some pages have become others; no other page has turned -/
structure Ext (f m : Nat) (S S' : TS) (P Q : List Nat) : Prop where
  pg : ∀ k, okM f m S k = true → k ∉ P → S'.pg k = S.pg k
  ok : ∀ k, okM f m S' k = true ↔ (okM f m S k = true ∧ k ∉ P) ∨ k ∈ Q
  fresh : ∀ k ∈ Q, k ∈ P ∨ okM f m S k = false
  cnt : cntM m S' + P.length = cntM m S + Q.length
section
variable {f m : Nat} {S S1 S2 : TS} {P Q R : List Nat}
theorem Ext.refl (hP : ∀ k ∈ P, okM f m S k = true) : Ext f m S S P P := ⟨fun _ _ _ => rfl, fun k => by
  constructor
  · intro h
    by_cases hk : k ∈ P
    · exact .inr hk
    · exact .inl ⟨h, hk⟩
  · rintro (h | h)
    · exact h.1
    · exact hP k h, fun k hk => .inl hk, rfl⟩
theorem Ext.trans (h : Ext f m S S1 P Q) (k : Ext f m S1 S2 Q R) : Ext f m S S2 P R := by
  have hnq : ∀ x, okM f m S x = true → x ∉ P → x ∉ Q := fun x hx hp hq => by
    rcases h.fresh x hq with h1 | h1
    · exact hp h1
    · rw [hx] at h1; cases h1
  refine ⟨fun x hx hp => ?_, fun x => ?_, fun x hx => ?_, ?_⟩
  · rw [k.pg x ((h.ok x).2 (.inl ⟨hx, hp⟩)) (hnq x hx hp), h.pg x hx hp]
  · rw [k.ok x, h.ok x]
    constructor
    · rintro (⟨h1 | h1, h2⟩ | h1)
      · exact .inl h1
      · exact absurd h1 h2
      · exact .inr h1
    · rintro (h1 | h1)
      · exact .inl ⟨.inl h1, hnq x h1.1 h1.2⟩
      · exact .inr h1
  · rcases k.fresh x hx with h1 | h1
    · exact h.fresh x h1
    · by_cases hp : x ∈ P
      · exact .inl hp
      · right
        by_cases ho : okM f m S x = true
        · have := (h.ok x).2 (.inl ⟨ho, hp⟩)
          rw [h1] at this; cases this
        · simpa using ho
  · have h1 := h.cnt
    have h2 := k.cnt
    omega
/-- other pages stand by -/
theorem Ext.frame (h : Ext f m S S1 P Q) (hR : ∀ k ∈ R, okM f m S k = true ∧ k ∉ P) : Ext f m S S1 (P ++ R) (Q ++ R) := by
  refine ⟨fun x hx hp => h.pg x hx fun hh => hp (List.mem_append_left _ hh), fun x => ?_, fun x hx => ?_, ?_⟩
  · rw [h.ok x]
    simp only [List.mem_append, not_or]
    constructor
    · rintro (⟨h1, h2⟩ | h1)
      · by_cases hr : x ∈ R
        · exact .inr (.inr hr)
        · exact .inl ⟨h1, h2, hr⟩
      · exact .inr (.inl h1)
    · rintro (⟨h1, h2, h3⟩ | h1 | h1)
      · exact .inl ⟨h1, h2⟩
      · exact .inr h1
      · exact .inl (hR x h1)
  · rcases List.mem_append.1 hx with h1 | h1
    · rcases h.fresh x h1 with h2 | h2
      · exact .inl (List.mem_append_left _ h2)
      · exact .inr h2
    · exact .inl (List.mem_append_right _ h1)
  · have := h.cnt
    simp only [List.length_append]
    omega
theorem Ext.perm {P' Q' : List Nat} (h : Ext f m S S1 P Q) (hp : P.Perm P') (hq : Q.Perm Q') : Ext f m S S1 P' Q' := by
  refine ⟨fun x hx hn => h.pg x hx fun hh => hn (hp.mem_iff.1 hh), fun x => ?_, fun x hx => ?_, ?_⟩
  · rw [h.ok x, hp.mem_iff, hq.mem_iff]
  · rcases h.fresh x (hq.mem_iff.2 hx) with h1 | h1
    · exact .inl (hp.mem_iff.1 h1)
    · exact .inr h1
  · have := h.cnt
    rw [hp.length_eq, hq.length_eq] at this
    exact this
/-- what has become is taken, and apart from what stood by -/
theorem Ext.taken (h : Ext f m S S1 P Q) : ∀ k ∈ Q, okM f m S1 k = true := fun k hk => (h.ok k).2 (.inr hk)
theorem Ext.apart (h : Ext f m S S1 P Q) {k : Nat} (hk : okM f m S k = true) (hp : k ∉ P) : k ∉ Q ∧ okM f m S1 k = true ∧ S1.pg k = S.pg k := by
  refine ⟨fun hq => ?_, (h.ok k).2 (.inl ⟨hk, hp⟩), h.pg k hk hp⟩
  rcases h.fresh k hq with h1 | h1
  · exact hp h1
  · rw [hk] at h1; cases h1
/-! ### the steps -/
theorem store_ext {at_ kind : Nat} {l : List Ent} (hok : okM f m S at_ = true) (hl : okB kind l = true) :
    ∃ S1, storeM f m S at_ kind l = some S1 ∧ Ext f m S S1 [at_] [at_] ∧ S1.pg at_ = some (kind, l) := by
  unfold storeM
  rw [if_pos (by rw [hl, hok]; rfl)]
  refine ⟨_, rfl, ⟨fun k hk hn => ?_, fun k => ?_, fun k hk => .inl hk, rfl⟩, by simp⟩
  · simp only [List.mem_singleton] at hn
    simp [hn]
  · have e : okM f m ⟨fun k => if k = at_ then some (kind, l) else S.pg k, S.used⟩ k = okM f m S k := rfl
    rw [e]
    simp only [List.mem_singleton]
    constructor
    · intro h
      by_cases hk : k = at_
      · exact .inr hk
      · exact .inl ⟨h, hk⟩
    · rintro (h | rfl)
      · exact h.1
      · exact hok
theorem count_more {p : Nat → Bool} {j : Nat} (hp : p j = false) : ∀ m, (List.range m).countP (fun k => p k || decide (k = j)) = (List.range m).countP p + if j < m then 1 else 0
  | 0 => by simp
  | m + 1 => by
    rw [List.range_succ, List.countP_append, List.countP_append, count_more hp m]
    by_cases hj : j = m
    · subst hj
      simp [hp]
    · by_cases hlt : j < m
      · rw [if_pos hlt, if_pos (by omega)]
        simp [show ¬ m = j by omega]
        omega
      · rw [if_neg hlt, if_neg (by omega)]
        simp [show ¬ m = j by omega]
theorem alloc_ext (hc : cntM m S < m) : ∃ a S1, allocM f m S = some (a, S1) ∧ Ext f m S S1 [] [a] ∧ S1.pg = S.pg ∧ okM f m S a = false ∧ okM f m S1 a = true ∧ f < a ∧ a ≤ f + m := by
  have hn : ∃ j, nextM m S = some j := by
    cases h : nextM m S with
    | some j => exact ⟨j, rfl⟩
    | none =>
      unfold nextM at h
      rw [List.find?_eq_none] at h
      have : (List.range m).countP S.used = (List.range m).length := List.countP_eq_length.2 fun x hx => by simpa using h x hx
      unfold cntM at hc
      rw [this] at hc
      simp at hc
  obtain ⟨j, hj⟩ := hn
  obtain ⟨j1, j2, j3⟩ := nextM_some hj
  refine ⟨f + 1 + j, ⟨S.pg, fun k => S.used k || decide (k = j)⟩, by unfold allocM; rw [hj], ⟨fun _ _ _ => rfl, fun k => ?_, fun k hk => ?_, ?_⟩, rfl, ?_, ?_, by omega, by omega⟩
  · simp only [okM, List.mem_singleton, Bool.and_eq_true, decide_eq_true_eq, Bool.or_eq_true, List.not_mem_nil, not_false_eq_true, and_true]
    constructor
    · rintro ⟨h1, h2, h3 | h3⟩
      · exact .inl ⟨h1, h2, h3⟩
      · exact .inr (by omega)
    · rintro (⟨h1, h2, h3⟩ | rfl)
      · exact ⟨h1, h2, .inl h3⟩
      · exact ⟨by omega, by omega, .inr (by omega)⟩
  · right
    obtain rfl := List.mem_singleton.1 hk
    have : f + 1 + j - f - 1 = j := by omega
    simp [okM, this, j2]
  · unfold cntM
    rw [count_more j2 m, if_pos j1]
    simp
  · have : f + 1 + j - f - 1 = j := by omega
    simp [okM, this, j2]
  · have : f + 1 + j - f - 1 = j := by omega
    simp [okM, this]
    omega
theorem rel_ext {at_ : Nat} (hok : okM f m S at_ = true) : ∃ S1, relM f m S at_ = some S1 ∧ Ext f m S S1 [at_] [] := by
  obtain ⟨h1, h2, h3⟩ := okM_bd hok
  unfold relM
  rw [if_pos hok]
  refine ⟨_, rfl, ⟨fun k hk hn => ?_, fun k => ?_, fun k hk => (List.not_mem_nil hk).elim, ?_⟩⟩
  · simp only [List.mem_singleton] at hn
    simp [hn]
  · simp only [okM, List.mem_singleton, Bool.and_eq_true, decide_eq_true_eq, List.not_mem_nil, or_false, Bool.not_eq_true', decide_eq_false_iff_not]
    constructor
    · rintro ⟨a1, a2, a3, a4⟩
      exact ⟨⟨a1, a2, a3⟩, by omega⟩
    · rintro ⟨⟨a1, a2, a3⟩, a4⟩
      exact ⟨a1, a2, a3, by omega⟩
  · unfold cntM
    have hp : (fun k => S.used k && !decide (k = at_ - f - 1)) (at_ - f - 1) = false := by simp
    have := count_more (p := fun k => S.used k && !decide (k = at_ - f - 1)) hp m
    rw [if_pos (by omega)] at this
    have e : (fun k => (fun k => S.used k && !decide (k = at_ - f - 1)) k || decide (k = at_ - f - 1)) = S.used := by
      funext k
      by_cases hk : k = at_ - f - 1
      · simp [hk, h3]
      · simp [hk]
    rw [e] at this
    simp only [List.length_singleton, List.length_nil]
    omega
end
end
/-! TFin -/
section
set_option linter.unusedSimpArgs false
set_option linter.unusedVariables false
open Go.RowKit Go.Maps Go.Shelf

section
variable {f m root d : Nat} {S S1 S2 : TS} {P Q R : List Nat} {L M : List (Bd d)}
theorem lies_congr : ∀ {d : Nat} {b : Bd d}, LiesB S d b → (∀ k ∈ pgB d b, S1.pg k = S.pg k) → LiesB S1 d b
  | 0, _, _, _ => trivial
  | d + 1, c, h, k => by
    refine ⟨(k _ List.mem_cons_self).trans h.1, fun b hb => lies_congr (h.2 b hb) fun x hx => k x (List.mem_cons_of_mem _ (List.mem_flatMap.2 ⟨b, hb, hx⟩))⟩
theorem LiesL.ext (h : LiesL S d L) (k : Ext f m S S1 P Q) (ho : ∀ x ∈ pgL d L, okM f m S x = true ∧ x ∉ P) : LiesL S1 d L :=
  fun b hb => lies_congr (h b hb) fun x hx => by
    obtain ⟨h1, h2⟩ := ho x (List.mem_flatMap.2 ⟨b, hb, hx⟩)
    exact k.pg x h1 h2
theorem LiesL.sub (h : LiesL S d (L ++ M)) : LiesL S d L ∧ LiesL S d M := ⟨fun b hb => h b (List.mem_append_left _ hb), fun b hb => h b (List.mem_append_right _ hb)⟩
theorem key0_en {b : Bd d} : key0 (enL d (b :: L)) = bdK d b := bdE_fst b
/-- a page of a list -/
theorem node_good {at_ : Nat} (hne : L ≠ []) (hg : GoodL d L) (hs : ∀ q ∈ enL d L, q.1.size ≤ 32 ∧ q.2.size ≤ 64) (hl : lSum (enL d L) ≤ 254) : GoodB (d + 1) (key0 (enL d L), (at_, L)) := by
  rw [GoodB_succ]
  refine ⟨hne, okB_iff.2 ⟨kd_or d, hs, enL_asc hg, hl⟩, ?_, hg⟩
  cases L with
  | nil => exact absurd rfl hne
  | cons b L =>
    show ∀ y ∈ ksL d (b :: L), ltB y (key0 (enL d (b :: L))) = false
    rw [key0_en]
    exact ks_first hg
theorem key0_mem (hne : L ≠ []) : key0 (enL d L) ∈ ksL d L := by
  cases L with
  | nil => exact absurd rfl hne
  | cons b L =>
    rw [key0_en, ksL_cons]
    exact List.mem_append_left _ (bdK_mem b)
theorem key0_size (hne : L ≠ []) (hs : ∀ q ∈ enL d L, q.1.size ≤ 32 ∧ q.2.size ≤ 64) : (key0 (enL d L)).size ≤ 32 := by
  cases L with
  | nil => exact absurd rfl hne
  | cons b L => exact (hs _ (by rw [enL_cons]; exact List.mem_cons_self)).1
theorem stL_ge {d : Nat} : ∀ X : List (Bd (d + 1)), X.length * (78 * 4 ^ d) ≤ stL (d + 1) X
  | [] => by simp [stL_nil]
  | x :: X => by
    have ih := stL_ge X
    rw [stL_cons, stB_succ, List.length_cons, Nat.add_mul, Nat.one_mul]
    have := Nat.le_max_left (78 * 4 ^ d) (stL d x.2.2)
    omega
/-- what a cut leaves -/
theorem stL_half : ∀ {d : Nat} {X : List (Bd d)}, (d = 0 → 78 ≤ lSum (enL d X)) → (d ≠ 0 → 4 ≤ X.length) → 78 * 4 ^ d ≤ stL d X
  | 0, X, h, _ => by
    have := h rfl
    rw [enL_zero] at this
    rw [stL_zero]
    simpa using this
  | d + 1, X, _, h => by
    have h1 := stL_ge X
    have h2 := Nat.mul_le_mul_right (78 * 4 ^ d) (h (by omega))
    rw [Nat.pow_succ]
    omega
set_option maxHeartbeats 1000000 in
theorem fin_ok {at_ : Nat} (hne : L ≠ []) (hg : GoodL d L) (hl : LiesL S d L) (hok : ∀ k ∈ at_ :: pgL d L, okM f m S k = true) (hnd : (at_ :: pgL d L).Nodup) (hat : at_ ≠ root)
    (e : Nat) (he : e ≤ 98 ∧ lSum (enL d L) + e ≤ 508 ∧ (d ≠ 0 → e ≤ 36)) (hsz : ∀ q ∈ enL d L, q.1.size ≤ 32 ∧ q.2.size ≤ 64 ∧ 2 + q.1.size + q.2.size ≤ e) (hc : cntM m S < m) :
    ∃ S' ps, finM f m root S at_ (kd d) (enL d L) = some (S', enL (d + 1) ps) ∧ Ext f m S S' (at_ :: pgL d L) (pgL (d + 1) ps) ∧ (pgL (d + 1) ps).Nodup ∧ LiesL S' (d + 1) ps ∧ (∀ p ∈ ps, GoodB (d + 1) p) ∧ ps.Pairwise (ltK (d + 1)) ∧
      flL (d + 1) ps = flL d L ∧ (∀ y ∈ ksL (d + 1) ps, y ∈ ksL d L) ∧ (∀ p ∈ ps, p.1.size ≤ 32) ∧ (pgL (d + 1) ps).length ≤ (pgL d L).length + 2 ∧
      ((∃ p, ps = [p]) ∨ ∃ p q, ps = [p, q]) ∧ stL (d + 1) ps ≤ max (78 * 4 ^ d) (stL d L) := by
  have hs2 : ∀ q ∈ enL d L, q.1.size ≤ 32 ∧ q.2.size ≤ 64 := fun q hq => ⟨(hsz q hq).1, (hsz q hq).2.1⟩
  have hnat : at_ ∉ pgL d L := (List.nodup_cons.1 hnd).1
  have hsub : ∀ k ∈ pgL d L, okM f m S k = true ∧ k ∉ [at_] := fun k hk => ⟨hok k (List.mem_cons_of_mem _ hk), fun h => hnat (by rw [List.mem_singleton] at h; rwa [h] at hk)⟩
  by_cases hfit : lSum (enL d L) ≤ 254
  · have hG := node_good (at_ := at_) hne hg hs2 hfit
    have hokB : okB (kd d) (enL d L) = true := (GoodB_succ.1 hG).2.1
    obtain ⟨S', hst, hE, hpg⟩ := store_ext (hok at_ List.mem_cons_self) hokB
    refine ⟨S', [(key0 (enL d L), (at_, L))], ?_, ?_, ?_, ?_, ?_, List.pairwise_singleton _ _, ?_, ?_, ?_, ?_, .inl ⟨_, rfl⟩, ?_⟩
    · unfold finM
      rw [if_pos (by unfold lSize; omega), hst]; rfl
    · have := hE.frame (R := pgL d L) hsub
      simpa [pgL_cons, pgB_succ, pgL] using this
    · simpa [pgL_cons, pgB_succ, pgL] using hnd
    · intro p hp
      obtain rfl := List.mem_singleton.1 hp
      exact ⟨hpg, hl.ext hE hsub⟩
    · intro p hp
      obtain rfl := List.mem_singleton.1 hp
      exact hG
    · simp [flL_cons, flB_succ, flL]
    · intro y hy
      replace hy : y ∈ (key0 (enL d L) :: ksL d L) ++ [] := hy
      rw [List.append_nil] at hy
      rcases List.mem_cons.1 hy with rfl | hy
      · exact key0_mem hne
      · exact hy
    · intro p hp
      obtain rfl := List.mem_singleton.1 hp
      exact key0_size hne hs2
    · show ((at_ :: pgL d L) ++ []).length ≤ _
      simp
    · rw [stL_cons, stL_nil, stB_succ]
      exact Nat.le_refl _
  · obtain ⟨hlen, hb1, hb2⟩ := lCut_bal (enL d L) e (fun q hq => (hsz q hq).2.2) (by omega)
    have hcb := lCut_bd hlen
    have hll : (enL d L).length = L.length := by unfold enL; simp
    obtain ⟨c, hcdef⟩ : ∃ c, lCut (enL d L) = c := ⟨_, rfl⟩
    have h4 : d ≠ 0 → 4 ≤ (L.take c).length ∧ 4 ≤ (L.drop c).length := fun h0 => by
      have := lCut_four (enL d L) (fun q hq => by have := (hsz q hq).2.2; have := he.2.2 h0; omega) (by omega)
      rw [hcdef] at this
      simpa [hll] using this
    have eT : enL d (L.take c) = (enL d L).take c := by unfold enL; rw [List.map_take]
    have eD : enL d (L.drop c) = (enL d L).drop c := by unfold enL; rw [List.map_drop]
    rw [hcdef] at hb1 hb2 hcb
    have hXY : L.take c ++ L.drop c = L := List.take_append_drop c L
    obtain ⟨X, hX⟩ : ∃ X, L.take c = X := ⟨_, rfl⟩
    obtain ⟨Y, hY⟩ : ∃ Y, L.drop c = Y := ⟨_, rfl⟩
    have hXl : X.length = c := by rw [← hX, List.length_take]; omega
    have hYl : Y.length = L.length - c := by rw [← hY, List.length_drop]
    rw [hX, hY] at hXY h4
    rw [hX] at eT
    rw [hY] at eD
    rw [← eT] at hb1
    rw [← eD] at hb2
    have hXne : X ≠ [] := fun h => by rw [h] at hXl; simp at hXl; omega
    have hYne : Y ≠ [] := fun h => by rw [h] at hYl; simp at hYl; omega
    have hgXY : GoodL d (X ++ Y) := by rw [hXY]; exact hg
    have hlXY : LiesL S d (X ++ Y) := by rw [hXY]; exact hl
    obtain ⟨gX, gY⟩ := hgXY.sub_append
    obtain ⟨lX, lY⟩ := hlXY.sub
    have eP : pgL d L = pgL d X ++ pgL d Y := by rw [← hXY, pgL_append]
    have eK : ksL d L = ksL d X ++ ksL d Y := by rw [← hXY, ksL_append]
    have eF : flL d L = flL d X ++ flL d Y := by rw [← hXY, flL_append]
    have eE : enL d L = enL d X ++ enL d Y := by rw [← hXY, enL_append]
    have sX : ∀ q ∈ enL d X, q.1.size ≤ 32 ∧ q.2.size ≤ 64 := fun q hq => hs2 q (by rw [eE]; exact List.mem_append_left _ hq)
    have sY : ∀ q ∈ enL d Y, q.1.size ≤ 32 ∧ q.2.size ≤ 64 := fun q hq => hs2 q (by rw [eE]; exact List.mem_append_right _ hq)
    obtain ⟨a, S1, hal, hE1, hpg1, hna, hya, ha1, ha2⟩ := alloc_ext (f := f) hc
    have hap : ∀ k ∈ at_ :: pgL d L, k ≠ a := fun k hk hh => by have := hok k hk; rw [hh, hna] at this; cases this
    have hok1 : ∀ k ∈ at_ :: pgL d L, okM f m S1 k = true := fun k hk => (hE1.apart (hok k hk) (by simp)).2.1
    have GX := node_good (at_ := at_) hXne gX sX (by omega)
    have GY := node_good (at_ := a) hYne gY sY (by omega)
    obtain ⟨S2, hst2, hE2, hpg2⟩ := store_ext (hok1 at_ List.mem_cons_self) (GoodB_succ.1 GX).2.1
    have hya2 : okM f m S2 a = true := (hE2.apart hya (by simp only [List.mem_singleton]; exact fun h => hap at_ List.mem_cons_self h.symm)).2.1
    obtain ⟨S3, hst3, hE3, hpg3⟩ := store_ext hya2 (GoodB_succ.1 GY).2.1
    have hna2 : a ∉ [at_] := by simp only [List.mem_singleton]; exact fun h => hap at_ List.mem_cons_self h.symm
    have hnd3 : (a :: at_ :: pgL d L).Nodup := List.nodup_cons.2 ⟨fun h => hap a h rfl, hnd⟩
    -- the chain of steps
    have F1 : Ext f m S S1 (at_ :: pgL d L) (a :: at_ :: pgL d L) := hE1.frame (R := at_ :: pgL d L) fun k hk => ⟨hok k hk, by simp⟩
    have F2 : Ext f m S1 S2 (a :: at_ :: pgL d L) (a :: at_ :: pgL d L) := by
      have := hE2.frame (R := a :: pgL d L) fun k hk => by
        rcases List.mem_cons.1 hk with rfl | hk
        · exact ⟨hya, hna2⟩
        · exact ⟨hok1 k (List.mem_cons_of_mem _ hk), (hsub k hk).2⟩
      exact this.perm (List.Perm.swap _ _ _) (List.Perm.swap _ _ _)
    have hok2 : ∀ k ∈ at_ :: pgL d L, okM f m S2 k = true := fun k hk => F2.taken k (List.mem_cons_of_mem _ hk)
    have F3 : Ext f m S2 S3 (a :: at_ :: pgL d L) (a :: at_ :: pgL d L) := hE3.frame (R := at_ :: pgL d L) fun k hk => ⟨hok2 k hk, by simp only [List.mem_singleton]; exact hap k hk⟩
    have F : Ext f m S S3 (at_ :: pgL d L) (a :: at_ :: pgL d L) := (F1.trans F2).trans F3
    have eps : pgL (d + 1) [(key0 (enL d X), (at_, X)), (key0 (enL d Y), (a, Y))] = at_ :: (pgL d X ++ a :: pgL d Y) := by simp [pgL, pgB_succ]
    have hperm : (a :: at_ :: pgL d L).Perm (at_ :: (pgL d X ++ a :: pgL d Y)) := by
      rw [eP]
      refine (List.Perm.swap _ _ _).trans (.cons _ ?_)
      exact List.perm_middle.symm
    have lies : ∀ {M : List (Bd d)}, LiesL S d M → (∀ k ∈ pgL d M, k ∈ pgL d L) → LiesL S3 d M := fun {M} hM hs => by
      refine ((hM.ext hE1 fun k hk => ⟨(hsub k (hs k hk)).1, by simp⟩).ext hE2 fun k hk => ⟨hok1 k (List.mem_cons_of_mem _ (hs k hk)), (hsub k (hs k hk)).2⟩).ext hE3 fun k hk => ⟨hok2 k (List.mem_cons_of_mem _ (hs k hk)), ?_⟩
      simp only [List.mem_singleton]
      exact hap k (List.mem_cons_of_mem _ (hs k hk))
    refine ⟨S3, [(key0 (enL d X), (at_, X)), (key0 (enL d Y), (a, Y))], ?_, ?_, ?_, ?_, ?_, ?_, ?_, ?_, ?_, ?_, .inr ⟨_, _, rfl⟩, ?_⟩
    · unfold finM
      rw [if_neg (by unfold lSize; omega), if_neg hat, hal]
      simp only [Option.bind_some, hcdef, ← eT, ← eD, hst2, hst3, Option.map_some]
      rfl
    · rw [eps]
      exact F.perm (.refl _) hperm
    · rw [eps]
      exact hperm.nodup hnd3
    · intro p hp
      rcases List.mem_cons.1 hp with rfl | hp
      · refine ⟨?_, lies lX fun k hk => by rw [eP]; exact List.mem_append_left _ hk⟩
        have := (hE3.apart (hok2 at_ List.mem_cons_self) (by simp only [List.mem_singleton]; exact hap at_ List.mem_cons_self)).2.2
        exact this.trans hpg2
      · obtain rfl := List.mem_singleton.1 hp
        exact ⟨hpg3, lies lY fun k hk => by rw [eP]; exact List.mem_append_right _ hk⟩
    · intro p hp
      rcases List.mem_cons.1 hp with rfl | hp
      · exact GX
      · obtain rfl := List.mem_singleton.1 hp
        exact GY
    · refine .cons (fun p hp => ?_) (List.pairwise_singleton _ _)
      obtain rfl := List.mem_singleton.1 hp
      have key : ∀ y ∈ ksL d X, ltB y (key0 (enL d Y)) = true := fun y hy => by
        cases hYc : Y with
        | nil => exact absurd hYc hYne
        | cons b B =>
          rw [key0_en]
          obtain ⟨x, hx, hyx⟩ := List.mem_flatMap.1 hy
          have := (List.pairwise_append.1 hgXY.lt).2.2 x hx b (by rw [hYc]; simp)
          exact this y hyx
      intro y hy
      rw [ksB_succ] at hy
      rcases List.mem_cons.1 hy with rfl | hy
      · exact key _ (key0_mem hXne)
      · exact key y hy
    · show flL d X ++ (flL d Y ++ []) = flL d L
      rw [List.append_nil, eF]
    · intro y hy
      replace hy : y ∈ (key0 (enL d X) :: ksL d X) ++ ((key0 (enL d Y) :: ksL d Y) ++ []) := hy
      rw [eK]
      rcases List.mem_append.1 hy with hy | hy
      · rcases List.mem_cons.1 hy with rfl | hy
        · exact List.mem_append_left _ (key0_mem hXne)
        · exact List.mem_append_left _ hy
      · rcases List.mem_append.1 hy with hy | hy
        · rcases List.mem_cons.1 hy with rfl | hy
          · exact List.mem_append_right _ (key0_mem hYne)
          · exact List.mem_append_right _ hy
        · exact (List.not_mem_nil hy).elim
    · intro p hp
      rcases List.mem_cons.1 hp with rfl | hp
      · exact key0_size hXne sX
      · obtain rfl := List.mem_singleton.1 hp
        exact key0_size hYne sY
    · rw [eps, ← hperm.length_eq]; simp
    · have e1 : stL d L = stL d X + stL d Y := by rw [← hXY, stL_append]
      have e2 : lSum (enL d L) = lSum (enL d X) + lSum (enL d Y) := by rw [eE, lSum_append]
      have hx := stL_half (X := X) (fun _ => by omega) fun h0 => (h4 h0).1
      have hy := stL_half (X := Y) (fun _ => by omega) fun h0 => (h4 h0).2
      rw [stL_cons, stL_cons, stL_nil, stB_succ, stB_succ]
      show max _ (stL d X) + (max _ (stL d Y) + 0) ≤ _
      rw [Nat.max_eq_right hx, Nat.max_eq_right hy, e1]
      exact Nat.le_trans (by omega) (Nat.le_max_right _ _)
end
end
end Go.Proofs.YtmgcaohpbaiiaaaGreatDoor
