/- The reference's sorting of numbers; what is sorted and has the same members is the same. -/
import Derived.Test.YtmgcaohpbaiiaaaGreatDoorTPagesG
import Derived.BigRegion
set_option linter.unusedSimpArgs false
set_option linter.unusedVariables false
namespace Go.Proofs.YtmgcaohpbaiiaaaGreatDoor
open Go.RowKit Go.Maps Go.Shelf
def insZ (x : Int) : List Int → List Int
  | [] => [x]
  | y :: r => if x ≤ y then (if x = y then y :: r else x :: y :: r) else y :: insZ x r
def ascZ (l : List Int) : Prop := l.Pairwise (· < ·)
theorem mem_insZ {x z : Int} : ∀ {l : List Int}, z ∈ insZ x l ↔ z = x ∨ z ∈ l
  | [] => by simp [insZ]
  | y :: r => by
    unfold insZ
    split
    · split
      · rename_i h; subst h; simp
      · simp
    · simp only [List.mem_cons, mem_insZ (l := r)]
      constructor
      · rintro (h | h | h) <;> simp [h]
      · rintro (h | h | h) <;> simp [h]
theorem asc_insZ {x : Int} : ∀ {l : List Int}, ascZ l → ascZ (insZ x l)
  | [], _ => by simp [insZ, ascZ]
  | y :: r, h => by
    obtain ⟨h1, h2⟩ := List.pairwise_cons.1 h
    unfold insZ
    split
    · split
      · exact h
      · refine List.pairwise_cons.2 ⟨fun z hz => ?_, h⟩
        rcases List.mem_cons.1 hz with rfl | hz
        · omega
        · have := h1 z hz; omega
    · refine List.pairwise_cons.2 ⟨fun z hz => ?_, asc_insZ h2⟩
      rcases mem_insZ.1 hz with rfl | hz
      · omega
      · exact h1 z hz
theorem asc_unique : ∀ {a b : List Int}, ascZ a → ascZ b → (∀ z, z ∈ a ↔ z ∈ b) → a = b
  | [], [], _, _, _ => rfl
  | [], y :: r, _, _, h => by have := (h y).2 (by simp); simp at this
  | x :: r, [], _, _, h => by have := (h x).1 (by simp); simp at this
  | x :: r, y :: q, ha, hb, h => by
    obtain ⟨a1, a2⟩ := List.pairwise_cons.1 ha
    obtain ⟨b1, b2⟩ := List.pairwise_cons.1 hb
    have e : x = y := by
      rcases List.mem_cons.1 ((h x).1 (by simp)) with e | hx
      · exact e
      rcases List.mem_cons.1 ((h y).2 (by simp)) with e | hy
      · exact e.symm
      have h1 := a1 y hy
      have h2 := b1 x hx
      omega
    subst e
    refine congrArg _ (asc_unique a2 b2 fun z => ?_)
    constructor
    · intro hz
      rcases List.mem_cons.1 ((h z).1 (List.mem_cons_of_mem _ hz)) with rfl | hz2
      · have := a1 z hz; omega
      · exact hz2
    · intro hz
      rcases List.mem_cons.1 ((h z).2 (List.mem_cons_of_mem _ hz)) with rfl | hz2
      · have := b1 z hz; omega
      · exact hz2
/-- numbers rising, each once -/
def risZ (l : List Int) : List Int := l.foldl (fun a x => insZ x a) []
theorem mem_foldZ {z : Int} : ∀ {l a : List Int}, z ∈ l.foldl (fun a x => insZ x a) a ↔ z ∈ l ∨ z ∈ a
  | [], a => by simp
  | x :: r, a => by
    rw [List.foldl_cons, mem_foldZ, mem_insZ]
    simp only [List.mem_cons]
    constructor
    · rintro (h | h | h) <;> simp [h]
    · rintro ((h | h) | h) <;> simp [h]
theorem asc_foldZ : ∀ {l a : List Int}, ascZ a → ascZ (l.foldl (fun a x => insZ x a) a)
  | [], a, h => h
  | x :: r, a, h => by rw [List.foldl_cons]; exact asc_foldZ (asc_insZ h)
theorem mem_risZ {z : Int} {l : List Int} : z ∈ risZ l ↔ z ∈ l := by unfold risZ; rw [mem_foldZ]; simp
theorem asc_risZ {l : List Int} : ascZ (risZ l) := asc_foldZ List.Pairwise.nil
theorem asc_sortZ {l : List Nat} (h : l.Nodup) : ascZ (sortZ l) := by
  have hs : (sortZ l).Pairwise (fun x y : Int => (decide (x ≤ y)) = true) := List.pairwise_mergeSort (fun a b c h1 h2 => by simp at *; omega) (fun a b => by simp; omega) _
  have hn : (sortZ l).Nodup := (List.mergeSort_perm _ _).nodup_iff.2 (by unfold zN; rw [List.nodup_iff_pairwise_ne, List.pairwise_map]; exact (List.nodup_iff_pairwise_ne.1 h).imp fun hab => by omega)
  exact (List.Pairwise.and hs (List.nodup_iff_pairwise_ne.1 hn)).imp fun {a b} hab => by
    have h1 : a ≤ b := by simpa using hab.1
    have h2 := hab.2
    omega
theorem mem_sortZ {z : Int} {l : List Nat} : z ∈ sortZ l ↔ z ∈ zN l := (List.mergeSort_perm _ _).mem_iff
theorem sort_ris {l : List Nat} (h : l.Nodup) : sortZ l = risZ (zN l) := asc_unique (asc_sortZ h) asc_risZ fun z => by rw [mem_sortZ, mem_risZ]
theorem sort_taken {f m : Nat} {S : TS} {l : List Nat} (h : l.Nodup) (hm : ∀ k, k ∈ l ↔ okM f m S k = true) : sortZ l = zN (takenS f m S) :=
  asc_unique (asc_sortZ h) (by unfold ascZ zN; rw [List.pairwise_map]; exact takenS_lt.imp fun {a b} h => by omega) fun z => by
    rw [mem_sortZ]
    unfold zN
    simp only [List.mem_map]
    constructor
    · rintro ⟨k, hk, rfl⟩; exact ⟨k, mem_takenS.2 ((hm k).1 hk), rfl⟩
    · rintro ⟨k, hk, rfl⟩; exact ⟨k, (hm k).2 (mem_takenS.1 hk), rfl⟩
end Go.Proofs.YtmgcaohpbaiiaaaGreatDoor
