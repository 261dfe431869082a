/- The held pages in the order of their uses, as the reference keeps them. (Plain.) -/
import Derived.Test.YtdoankamaobkoaaGreatJ2
set_option linter.unusedSimpArgs false
set_option linter.unusedVariables false
namespace Go.Proofs.YtdoankamaobkoaaGreat
open Go.RowKit Go.Maps Go.Shelf

/-- L: the held pages, the one used longest ago first -/
structure Ord (S : Pgr) (L : List (Int × Pg)) : Prop where
  perm : L.Perm S.held
  srt : L.Pairwise fun a b => a.2.used < b.2.used
theorem key_uniq {α : Type} {l : List (Int × α)} (h : Srt l) {p q : Int × α} (hp : p ∈ l) (hq : q ∈ l) (e : p.1 = q.1) : p = q := by
  have h1 := mem_get h (show (p.1, p.2) ∈ l from hp)
  have h2 := mem_get h (show (q.1, q.2) ∈ l from hq)
  rw [e, h2] at h1
  exact Prod.ext e (Option.some.inj h1).symm
theorem ins_perm {α : Type} {k : Int} {v : α} : ∀ {l : List (Int × α)}, Srt l → (ins k v l).Perm ((k, v) :: del k l)
  | [], _ => List.Perm.refl _
  | p :: r, h => by
    obtain ⟨h1, h2⟩ := List.pairwise_cons.1 h
    have hdel : ∀ {x : Int}, (∀ q ∈ r, x < q.1) → del x r = r := fun hx => by
      unfold del
      rw [List.filter_eq_self]
      intro q hq
      have := hx q hq
      simp; omega
    unfold ins
    split
    · rename_i hlt
      have e : del k (p :: r) = p :: r := by
        unfold del
        rw [List.filter_eq_self]
        intro q hq
        rcases List.mem_cons.1 hq with rfl | hq
        · simp; omega
        · have := h1 q hq; simp; omega
      rw [e]
    · split
      · rename_i hlt he
        have e : del k (p :: r) = r := by
          unfold del
          rw [List.filter_cons]
          simp only [he, decide_true, Bool.not_true, Bool.false_eq_true, if_false]
          exact hdel (fun q hq => by have := h1 q hq; omega)
        rw [e]
      · rename_i hlt he
        have e : del k (p :: r) = p :: del k r := by
          unfold del
          rw [List.filter_cons]
          simp [he]
        rw [e]
        exact ((ins_perm h2).cons p).trans (List.Perm.swap _ _ _)
theorem del_perm {α : Type} {k : Int} {v : α} {l : List (Int × α)} (hs : Srt l) (h : get k l = some v) : l.Perm ((k, v) :: del k l) := by
  have := ins_perm (k := k) (v := v) hs
  rwa [ins_get hs h] at this
theorem erase_cons_perm {α : Type} : ∀ (l : List α) (j : Nat) (hj : j < l.length), (l[j] :: l.eraseIdx j).Perm l
  | [], _, h => by simp at h
  | a :: l, 0, _ => List.Perm.refl _
  | a :: l, j + 1, h => (List.Perm.swap a (l[j]'(by simpa using h)) (l.eraseIdx j)).trans ((erase_cons_perm l j (by simpa using h)).cons a)
theorem set_cons_perm {α : Type} : ∀ (l : List α) (j : Nat) (v : α) (hj : j < l.length), (l.set j v).Perm (v :: l.eraseIdx j)
  | [], _, _, h => by simp at h
  | a :: l, 0, v, _ => List.Perm.refl _
  | a :: l, j + 1, v, h => ((set_cons_perm l j v (by simpa using h)).cons a).trans (List.Perm.swap v a (l.eraseIdx j))
def atIx (L : List (Int × Pg)) (i : Int) : Option Nat := L.findIdx? fun q => decide (q.1 = i)
def freeIx (L : List (Int × Pg)) : Option Nat := L.findIdx? fun q => decide (q.2.pins = 0)
section
variable {S : Pgr} {L : List (Int × Pg)} {i : Int}
theorem atIx_none (h : Ord S L) (hn : atIx L i = none) : get i S.held = none := by
  cases hg : get i S.held with
  | none => rfl
  | some x =>
    have hm := h.perm.symm.subset (get_mem hg)
    have := List.findIdx?_eq_none_iff.1 hn _ hm
    simp at this
theorem atIx_some (h : Ord S L) (hok : S.Ok) {j : Nat} (hn : atIx L i = some j) : ∃ (hj : j < L.length), L[j].1 = i ∧ get i S.held = some L[j].2 := by
  obtain ⟨hj, hp, _⟩ := List.findIdx?_eq_some_iff_getElem.1 hn
  have e : L[j].1 = i := by simpa using hp
  refine ⟨hj, e, ?_⟩
  have hm := h.perm.subset (List.getElem_mem hj)
  have := mem_get hok.srt (show (L[j].1, L[j].2) ∈ S.held from hm)
  rwa [e] at this
theorem erase_perm (h : Ord S L) (hok : S.Ok) {j : Nat} (hj : j < L.length) (e : L[j].1 = i) (hg : get i S.held = some L[j].2) : (L.eraseIdx j).Perm (del i S.held) := by
  have h1 : (L[j] :: L.eraseIdx j).Perm L := erase_cons_perm L j hj
  have h2 := del_perm hok.srt hg
  have h3 : L[j] = (i, L[j].2) := Prod.ext e rfl
  have h4 := (h1.trans h.perm).trans h2
  rw [h3] at h4
  exact h4.cons_inv
theorem erase_srt (h : Ord S L) (j : Nat) : (L.eraseIdx j).Pairwise fun a b => a.2.used < b.2.used := List.Pairwise.sublist (List.eraseIdx_sublist ..) h.srt
theorem used_le (h : Ord S L) (hok : S.Ok) : ∀ q ∈ L, q.2.used ≤ S.clock := fun q hq => (hok.held q (h.perm.subset hq)).2.2.2.1
theorem push_srt {l : List (Int × Pg)} (h : l.Pairwise fun a b => a.2.used < b.2.used) {v : Int × Pg} (hu : ∀ q ∈ l, q.2.used < v.2.used) : (l ++ [v]).Pairwise fun a b => a.2.used < b.2.used :=
  List.pairwise_append.2 ⟨h, by simp, fun a ha b hb => by simp at hb; subst hb; exact hu a ha⟩
theorem Ord.use (h : Ord S L) (hok : S.Ok) {j : Nat} (hj : j < L.length) (e : L[j].1 = i) (hg : get i S.held = some L[j].2) (y : Pg) : Ord (S.use i y) (L.eraseIdx j ++ [(i, { y with used := S.clock + 1 })]) := by
  refine ⟨?_, push_srt (erase_srt h j) fun q hq => ?_⟩
  · show (L.eraseIdx j ++ [_]).Perm (ins i _ S.held)
    refine (List.perm_append_comm.trans ?_).trans (ins_perm hok.srt).symm
    exact (erase_perm h hok hj e hg).cons _
  · have := used_le h hok q ((List.eraseIdx_sublist ..).subset hq)
    show q.2.used < S.clock + 1
    omega
theorem Ord.gone (h : Ord S L) (hok : S.Ok) {j : Nat} (hj : j < L.length) (e : L[j].1 = i) (hg : get i S.held = some L[j].2) : Ord { S with held := del i S.held } (L.eraseIdx j) :=
  ⟨erase_perm h hok hj e hg, erase_srt h j⟩
theorem Ord.gone' (h : Ord S L) (hg : get i S.held = none) : Ord { S with held := del i S.held } L := ⟨by show L.Perm (del i S.held); rw [del_get_none hg]; exact h.perm, h.srt⟩
theorem Ord.set (h : Ord S L) (hok : S.Ok) {j : Nat} (hj : j < L.length) (e : L[j].1 = i) (hg : get i S.held = some L[j].2) (p : Int) : Ord { S with held := ins i { L[j].2 with pins := p } S.held } (L.set j (i, { L[j].2 with pins := p })) := by
  refine ⟨?_, ?_⟩
  · refine (set_cons_perm L j _ hj).trans ?_
    exact ((erase_perm h hok hj e hg).cons _).trans (ins_perm hok.srt).symm
  · have hm : (L.set j (i, { L[j].2 with pins := p })).map (fun q => q.2.used) = L.map (fun q => q.2.used) := by
      rw [List.map_set]
      refine List.ext_getElem (by simp) fun k h1 h2 => ?_
      rw [List.getElem_set]
      split
      · rename_i e; subst e; simp
      · rfl
    have := h.srt
    rw [← List.pairwise_map (f := fun q : Int × Pg => q.2.used) (R := (· < ·))] at this ⊢
    rw [hm]; exact this
/-! the one used longest ago -/
theorem old_way : ∀ (l : List (Int × Pg)) (b : Option (Int × Pg)),
    (older b l = none → b = none ∧ ∀ p ∈ l, p.2.pins ≠ 0) ∧
    (∀ q, older b l = some q → ((q ∈ l ∧ q.2.pins = 0) ∨ b = some q) ∧ (∀ p ∈ l, p.2.pins = 0 → q.2.used ≤ p.2.used) ∧ (∀ p, b = some p → q.2.used ≤ p.2.used))
  | [], b => ⟨fun h => ⟨h, by simp⟩, fun q h => ⟨.inr h, by simp, fun p hp => by simp only [older] at h; rw [h] at hp; cases hp; omega⟩⟩
  | p :: r, b => by
    by_cases hp : p.2.pins = 0
    · cases b with
      | none =>
        have e : older none (p :: r) = older (some p) r := by simp [older, hp]
        obtain ⟨h1, h2⟩ := old_way r (some p)
        rw [e]
        refine ⟨fun h => (by have := (h1 h).1; cases this), fun q h => ?_⟩
        obtain ⟨a1, a2, a3⟩ := h2 q h
        refine ⟨?_, fun x hx h0 => ?_, fun x hx => by cases hx⟩
        · rcases a1 with ⟨a, b⟩ | a
          · exact .inl ⟨List.mem_cons_of_mem _ a, b⟩
          · cases a; exact .inl ⟨List.mem_cons_self, hp⟩
        · rcases List.mem_cons.1 hx with rfl | hx
          · exact a3 _ rfl
          · exact a2 x hx h0
      | some c =>
        by_cases hlt : p.2.used < c.2.used
        · have e : older (some c) (p :: r) = older (some p) r := by simp [older, hp, hlt]
          obtain ⟨h1, h2⟩ := old_way r (some p)
          rw [e]
          refine ⟨fun h => (by have := (h1 h).1; cases this), fun q h => ?_⟩
          obtain ⟨a1, a2, a3⟩ := h2 q h
          have ap := a3 p rfl
          refine ⟨?_, fun x hx h0 => ?_, fun x hx => by cases hx; omega⟩
          · rcases a1 with ⟨a, b⟩ | a
            · exact .inl ⟨List.mem_cons_of_mem _ a, b⟩
            · cases a; exact .inl ⟨List.mem_cons_self, hp⟩
          · rcases List.mem_cons.1 hx with rfl | hx
            · exact ap
            · exact a2 x hx h0
        · have e : older (some c) (p :: r) = older (some c) r := by simp [older, hp, hlt]
          obtain ⟨h1, h2⟩ := old_way r (some c)
          rw [e]
          refine ⟨fun h => (by have := (h1 h).1; cases this), fun q h => ?_⟩
          obtain ⟨a1, a2, a3⟩ := h2 q h
          have ac := a3 c rfl
          refine ⟨?_, fun x hx h0 => ?_, fun x hx => by cases hx; exact ac⟩
          · rcases a1 with ⟨a, b⟩ | a
            · exact .inl ⟨List.mem_cons_of_mem _ a, b⟩
            · exact .inr a
          · rcases List.mem_cons.1 hx with rfl | hx
            · omega
            · exact a2 x hx h0
    · have e : older b (p :: r) = older b r := by simp [older, hp]
      obtain ⟨h1, h2⟩ := old_way r b
      rw [e]
      refine ⟨fun h => ⟨(h1 h).1, fun x hx => ?_⟩, fun q h => ?_⟩
      · rcases List.mem_cons.1 hx with rfl | hx
        · exact hp
        · exact (h1 h).2 x hx
      · obtain ⟨a1, a2, a3⟩ := h2 q h
        refine ⟨?_, fun x hx h0 => ?_, a3⟩
        · rcases a1 with ⟨a, b⟩ | a
          · exact .inl ⟨List.mem_cons_of_mem _ a, b⟩
          · exact .inr a
        · rcases List.mem_cons.1 hx with rfl | hx
          · exact absurd h0 hp
          · exact a2 x hx h0
theorem freeIx_none (h : Ord S L) (hn : freeIx L = none) : oldest S.held = none := by
  unfold oldest
  cases ho : older none S.held with
  | none => rfl
  | some q =>
    obtain ⟨a1, _, _⟩ := (old_way S.held none).2 q ho
    rcases a1 with ⟨a, b⟩ | a
    · have := List.findIdx?_eq_none_iff.1 hn q (h.perm.symm.subset a)
      simp [b] at this
    · cases a
theorem freeIx_some (h : Ord S L) (hok : S.Ok) {j : Nat} (hn : freeIx L = some j) : ∃ (hj : j < L.length), oldest S.held = some L[j].1 ∧ get L[j].1 S.held = some L[j].2 ∧ L[j].2.pins = 0 := by
  obtain ⟨hj, hp, hlow⟩ := List.findIdx?_eq_some_iff_getElem.1 hn
  have hp0 : L[j].2.pins = 0 := by simpa using hp
  have hm := h.perm.subset (List.getElem_mem hj)
  refine ⟨hj, ?_, mem_get hok.srt (show (L[j].1, L[j].2) ∈ S.held from hm), hp0⟩
  unfold oldest
  cases ho : older none S.held with
  | none => exact absurd hp0 (((old_way S.held none).1 ho).2 _ hm)
  | some q =>
    obtain ⟨a1, a2, _⟩ := (old_way S.held none).2 q ho
    rcases a1 with ⟨a, b⟩ | a
    · have hle := a2 _ hm hp0
      obtain ⟨k, hk, he⟩ := List.getElem_of_mem (h.perm.symm.subset a)
      have hge : L[j].2.used ≤ q.2.used := by
        rcases Nat.lt_trichotomy k j with hkj | rfl | hkj
        · have := hlow k hkj
          rw [he] at this
          simp [b] at this
        · rw [← he]; exact Int.le_refl _
        · have := (List.pairwise_iff_getElem.1 h.srt) j k hj hk hkj
          rw [he] at this
          omega
      show some q.1 = some L[j].1
      rw [hok.used q a _ hm (by omega)]
    · cases a
def rHold (S : Pgr) (L : List (Int × Pg)) (i : Int) (s : ByteArray) : List (Int × Pg) :=
  if S.room ≤ (L.length : Int) then
    match freeIx L with
    | none => L
    | some j => L.eraseIdx j ++ [(i, ⟨s, 0, S.clock + 1⟩)]
  else L ++ [(i, ⟨s, 0, S.clock + 1⟩)]
theorem Ord.len (h : Ord S L) : L.length = S.held.length := h.perm.length_eq
theorem Ord.hold (h : Ord S L) (hok : S.Ok) (hg : get i S.held = none) (s : ByteArray) : Ord (S.hold i s) (rHold S L i s) := by
  have hl := h.len
  unfold rHold Pgr.hold
  by_cases hf : S.room ≤ (L.length : Int)
  · have hfull : S.full = true := by unfold Pgr.full; simp; omega
    rw [if_pos hf, if_pos hfull]
    cases hi : freeIx L with
    | none => rw [freeIx_none h hi]; exact h
    | some j =>
      obtain ⟨hj, ho, hg1, hp⟩ := freeIx_some h hok hi
      rw [ho]
      simp only
      have hpm := erase_perm h hok hj rfl hg1
      have hsd := srt_del (k := L[j].1) hok.srt
      have hgd : get i (del L[j].1 S.held) = none := by
        by_cases e : i = L[j].1
        · rw [e]; exact get_del_same
        · rw [get_del_other e]; exact hg
      refine ⟨?_, push_srt (erase_srt h j) fun q hq => ?_⟩
      · refine (List.perm_append_comm.trans ?_).trans (ins_perm hsd).symm
        rw [del_get_none hgd]
        exact hpm.cons _
      · have := used_le h hok q ((List.eraseIdx_sublist ..).subset hq)
        show q.2.used < S.clock + 1
        omega
  · have hfull : ¬ S.full = true := by unfold Pgr.full; simp; omega
    rw [if_neg hf, if_neg hfull]
    refine ⟨?_, push_srt h.srt fun q hq => ?_⟩
    · refine (List.perm_append_comm.trans ?_).trans (ins_perm hok.srt).symm
      rw [del_get_none hg]
      exact h.perm.cons _
    · have := used_le h hok q hq
      show q.2.used < S.clock + 1
      omega
/-- rows of keys: the held pages' numbers in the order of their uses -/
theorem ord_keys (h : Ord S L) (hok : S.Ok) {ks : List Int} (hp : ks.Perm (S.held.map (·.1))) (hs : ks.Pairwise fun a b => usedOf S a < usedOf S b) : ks = L.map (·.1) := by
  have hu : ∀ q ∈ L, usedOf S q.1 = q.2.used := fun q hq => by
    unfold usedOf
    rw [mem_get hok.srt (show (q.1, q.2) ∈ S.held from h.perm.subset hq)]
  have h1 : ks.Perm (L.map (·.1)) := hp.trans (h.perm.map _).symm
  have h2 : (L.map (·.1)).Pairwise fun a b => usedOf S a < usedOf S b := by
    rw [List.pairwise_map]
    refine h.srt.imp_of_mem fun ha hb hab => ?_
    rw [hu _ ha, hu _ hb]; exact hab
  exact List.Perm.eq_of_pairwise (fun a b _ _ x y => by omega) hs h2 h1
end
end Go.Proofs.YtdoankamaobkoaaGreat
