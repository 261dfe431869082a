/- What put, take and the walk over a tree come to, as plain functions. -/
import Derived.Test.YtmgcaohpbaiiaaaGreatDoorTNode
set_option linter.unusedSimpArgs false
set_option linter.unusedVariables false
namespace Go.Proofs.YtmgcaohpbaiiaaaGreatDoor
open Go.RowKit Go.Maps Go.Shelf

def minB (a b : ByteArray) : ByteArray := if (ltB a b || a.toList == b.toList) = true then a else b
/-- the key of the first entry -/
def key0 : List Ent → ByteArray
  | [] => ⟨#[]⟩
  | q :: _ => q.1
/-- a page is written; where it is too long it is cut -/
def finM (f m root : Nat) (S : TS) (at_ kind : Nat) (l : List Ent) : Option (TS × List Ent) :=
  if lSize l ≤ 256 then (storeM f m S at_ kind l).map fun S1 => (S1, [(key0 l, nmB at_)])
  else if at_ = root then
    (allocM f m S).bind fun p1 => (allocM f m p1.2).bind fun p2 => (storeM f m p2.2 p1.1 kind (l.take (lCut l))).bind fun S3 => (storeM f m S3 p2.1 kind (l.drop (lCut l))).bind fun S4 =>
      (storeM f m S4 at_ 2 [(key0 (l.take (lCut l)), nmB p1.1), (key0 (l.drop (lCut l)), nmB p2.1)]).map fun S5 => (S5, [(⟨#[]⟩, nmB at_)])
  else
    (allocM f m S).bind fun p1 => (storeM f m p1.2 at_ kind (l.take (lCut l))).bind fun S2 => (storeM f m S2 p1.1 kind (l.drop (lCut l))).map fun S3 =>
      (S3, [(key0 (l.take (lCut l)), nmB at_), (key0 (l.drop (lCut l)), nmB p1.1)])
/-- an entry put below a page -/
def putM (f m root : Nat) (key value : ByteArray) : Nat → TS → Nat → Option (TS × List Ent)
  | 0, _, _ => none
  | d + 1, S, at_ => (loadM S at_).bind fun p =>
    if p.1 = 1 then finM f m root S at_ 1 (lPut p.2 key value)
    else match p.2[cIx p.2 key]? with
      | none => none
      | some e => if e.2.size < 2 then none else (putM f m root key value d S (pgN e.2)).bind fun r => match r.2 with
        | [] => none
        | q :: qs => finM f m root r.1 at_ p.1 (repL p.2 (cIx p.2 key) ((minB e.1 q.1, q.2) :: qs))
/-- two pages side by side made one, if they fit -/
def joinM (f m : Nat) (S : TS) (l : List Ent) (i : Nat) : Option (TS × List Ent) :=
  match l[i]?, l[i + 1]? with
  | some x, some y => if x.2.size < 2 ∨ y.2.size < 2 then none else (loadM S (pgN x.2)).bind fun a => (loadM S (pgN y.2)).bind fun b =>
      if 256 < lSize (a.2 ++ b.2) then some (S, l)
      else (storeM f m S (pgN x.2) a.1 (a.2 ++ b.2)).bind fun S1 => (relM f m S1 (pgN y.2)).map fun S2 => (S2, l.take (i + 1) ++ l.drop (i + 1 + 1))
  | _, _ => some (S, l)
/-- a key taken out below a page -/
def takeM (f m : Nat) (key : ByteArray) : Nat → TS → Nat → Option (TS × Nat × Bool)
  | 0, _, _ => none
  | d + 1, S, at_ => (loadM S at_).bind fun p =>
    if p.1 = 1 then
      if lHas p.2 key then (storeM f m S at_ 1 (lTake p.2 key)).map fun S1 => (S1, (lTake p.2 key).length, true) else some (S, p.2.length, false)
    else match p.2[cIx p.2 key]? with
      | none => none
      | some e => if e.2.size < 2 then none else (takeM f m key d S (pgN e.2)).bind fun r =>
        if r.2.2 = false then some (r.1, p.2.length, false)
        else (if r.2.1 = 0 then (relM f m r.1 (pgN e.2)).map fun S1 => (S1, p.2.take (cIx p.2 key) ++ p.2.drop (cIx p.2 key + 1))
              else (joinM f m r.1 p.2 (cIx p.2 key)).bind fun j1 => if cIx p.2 key = 0 then some j1 else joinM f m j1.1 j1.2 (cIx p.2 key - 1)).bind fun j =>
          if j.2 = [] then (storeM f m j.1 at_ 1 []).map fun S2 => (S2, 0, true)
          else (storeM f m j.1 at_ p.1 j.2).map fun S2 => (S2, j.2.length, true)
/-- the entries from a key on, and the pages that are met -/
def walkM (from_ : ByteArray) : Nat → TS → Nat → Option (List Ent × List Nat)
  | 0, _, _ => none
  | d + 1, S, at_ => (loadM S at_).bind fun p =>
    if p.1 = 1 then some (p.2.drop (lIx p.2 from_), [at_])
    else (walksM from_ S (walkM from_ d S) (p.2.drop (cIx p.2 from_))).map fun r => (r.1, at_ :: r.2)
where
  walksM (from_ : ByteArray) (S : TS) (g : Nat → Option (List Ent × List Nat)) : List Ent → Option (List Ent × List Nat)
    | [] => some ([], [])
    | e :: r => if e.2.size < 2 then none else (g (pgN e.2)).bind fun a => (walksM from_ S g r).map fun b => (a.1 ++ b.1, a.2 ++ b.2)
/-- a key's value -/
def getM (key : ByteArray) : Nat → TS → Nat → Option (Option ByteArray)
  | 0, _, _ => none
  | d + 1, S, at_ => (loadM S at_).bind fun p =>
    if p.1 = 1 then some (if lHas p.2 key then (p.2[lIx p.2 key]?).map (·.2) else none)
    else match p.2[cIx p.2 key]? with
      | none => none
      | some e => if e.2.size < 2 then none else getM key d S (pgN e.2)

/-! ### sizes -/
theorem lSum_rep (l m : List Ent) (i : Nat) : lSum (repL l i m) ≤ lSum l + lSum m := by
  unfold repL
  rw [lSum_append, lSum_append]
  by_cases h : i < l.length
  · have h1 : lSum l = lSum (l.take i) + lSum (l.drop i) := by rw [← lSum_append, List.take_append_drop]
    have h2 : lSum (l.drop (i + 1)) ≤ lSum (l.drop i) := by
      rw [List.drop_eq_getElem_cons h]; show lSum _ ≤ lSum (_ :: _); simp only [lSum, List.map_cons, List.sum_cons]; omega
    omega
  · rw [List.take_of_length_le (by omega), List.drop_of_length_le (by omega)]; simp [lSum]
theorem lSum_ins (l m : List Ent) (i : Nat) : lSum (insL l i m) = lSum l + lSum m := by
  unfold insL
  rw [lSum_append, lSum_append]
  have h1 : lSum l = lSum (l.take i) + lSum (l.drop i) := by rw [← lSum_append, List.take_append_drop]
  omega
theorem lSum_put (l : List Ent) (key value : ByteArray) : lSum (lPut l key value) ≤ lSum l + (2 + key.size + value.size) := by
  unfold lPut
  split
  · have := lSum_rep l [(key, value)] (lIx l key); simpa [lSum] using this
  · rw [lSum_ins]; simp [lSum]
theorem lPut_ne (l : List Ent) (key value : ByteArray) : 0 < (lPut l key value).length := by
  unfold lPut
  split
  · unfold repL; simp; omega
  · unfold insL; simp; omega
section
variable {f m root : Nat} {S S' : TS} {at_ kind : Nat} {l : List Ent}
theorem storeM_fine (h : storeM f m S at_ kind l = some S') : Fine kind l ∧ okM f m S at_ = true := by
  unfold storeM at h
  split at h
  · rename_i hc
    simp only [Bool.and_eq_true] at hc
    exact ⟨okB_fine.1 hc.1, hc.2⟩
  · cases h
theorem key0_fine (h : Fine kind l) : (key0 l).size ≤ 32 := by
  cases l with
  | nil => simp [key0]; exact Nat.zero_le _
  | cons q r => exact (h.all q (by simp)).1
/-- what put hands back -/
structure Parts (ps : List Ent) : Prop where
  ne : 0 < ps.length
  le : ps.length ≤ 2
  ok : ∀ q ∈ ps, q.1.size ≤ 32 ∧ q.2.size = 2
theorem finM_parts {r : TS × List Ent} (h : finM f m root S at_ kind l = some r) : Parts r.2 := by
  unfold finM at h
  split at h
  · simp only [Option.map_eq_some_iff] at h
    obtain ⟨S1, h1, rfl⟩ := h
    exact ⟨by simp, by simp, fun q hq => by simp at hq; subst hq; exact ⟨key0_fine (storeM_fine h1).1, nmB_size _⟩⟩
  · split at h
    · simp only [Option.map_eq_some_iff, Option.bind_eq_some_iff] at h
      obtain ⟨p1, h1, p2, h2, S3, h3, S4, h4, S5, h5, rfl⟩ := h
      exact ⟨by simp, by simp, fun q hq => by simp at hq; subst hq; exact ⟨by simp; exact Nat.zero_le _, nmB_size _⟩⟩
    · simp only [Option.map_eq_some_iff, Option.bind_eq_some_iff] at h
      obtain ⟨p1, h1, S2, h2, S3, h3, rfl⟩ := h
      exact ⟨by simp, by simp, fun q hq => by
        simp at hq
        rcases hq with rfl | rfl
        · exact ⟨key0_fine (storeM_fine h2).1, nmB_size _⟩
        · exact ⟨key0_fine (storeM_fine h3).1, nmB_size _⟩⟩
theorem putM_parts {key value : ByteArray} {r : TS × List Ent} : ∀ {d : Nat} {S : TS} {at_ : Nat}, putM f m root key value d S at_ = some r → Parts r.2
  | 0, _, _, h => by simp [putM] at h
  | d + 1, S, at_, h => by
    simp only [putM, Option.bind_eq_some_iff] at h
    obtain ⟨p, h1, h⟩ := h
    split at h
    · exact finM_parts h
    · split at h
      · cases h
      · split at h
        · cases h
        · simp only [Option.bind_eq_some_iff] at h
          obtain ⟨r1, h2, h⟩ := h
          split at h
          · cases h
          · exact finM_parts h
end
end Go.Proofs.YtmgcaohpbaiiaaaGreatDoor
