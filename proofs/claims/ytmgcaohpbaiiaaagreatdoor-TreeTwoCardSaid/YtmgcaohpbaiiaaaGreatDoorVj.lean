/- found: the walk. -/
import Derived.Test.YtmgcaohpbaiiaaaGreatDoorVi
set_option linter.unusedSimpArgs false
set_option linter.unusedVariables false
namespace Go.Proofs.YtmgcaohpbaiiaaaGreatDoor
open Go.RowKit Go.Maps Go.Shelf
section
variable {w0 w W : World} {s dk t root B : Nat} {F : Nat → Prop} {n N : Int} {V D : Int → ByteArray} {S S1 : TS} {l : List Ent} {P : List Nat}
theorem FJ.start (h : GIn w0 w s dk F n V D N S) (hN : N < 900000000) (W1 : World) (hW1 : W1 = (w.alloc zeroFound).alloc (.cells (madeCells (Value.string ⟨#[]⟩).cells 2048) 9)) :
    Calls Tryz.prog 24 #[.pointer (some ⟨s, 0, none⟩)] W1 fun e w2 => ∃ F1 a cap, e = .returned (.slice a (takenS (jFirst n).toNat (spMany n) S).length cap) ∧ FJ w0 w w2 s dk F F1 n V D (N + 2) S w.heap.size (w.heap.size + 1) (takenS (jFirst n).toNat (spMany n) S) a cap 0 := by
  have hB1 : Below w.heap.size w W1 := by rw [hW1]; exact ((Below.refl _ w).alloc (Nat.le_refl _) _).alloc (by simp) _
  have hs1 : W1.heap.size = w.heap.size + 2 := by rw [hW1]; simp
  have o1 : W1.heap[w.heap.size]? = some zeroFound := by rw [hW1]; exact (Below.heap_alloc _ _ _ (by simp)).trans (heap_alloc_new' w _)
  have o2 : W1.heap[w.heap.size + 1]? = some (.cells (madeCells (Value.string ⟨#[]⟩).cells 2048) 9 (0, 0)) := by
    rw [hW1]
    have := heap_alloc_new' (w.alloc zeroFound) (.cells (madeCells (Value.string ⟨#[]⟩).cells 2048) 9 (0, 0))
    rwa [World.size_alloc] at this
  have hr1 := h.run.made hB1
  have hlt := h.lt
  refine (gtaken_own hr1.gin hN).mono ?_
  rintro e w2 ⟨F1, a, cap, he, hr, ho, hout⟩
  have k := hr.tst
  have hz : (zN (takenS (jFirst n).toNat (spMany n) S)).length = (takenS (jFirst n).toNat (spMany n) S).length := by simp [zN]
  rw [hz] at he ho hout
  have hn : ∀ b, w.heap.size ≤ b → b < W1.heap.size → ¬ F1 b := fun b hb hb2 hf => by
    rcases k.new b hf with h4 | h4
    · have := hlt b h4; omega
    · omega
  refine ⟨F1, a, cap, he, hr1.join hr, (k.upd.block _ (lt_of o1) (fun hf => by have := hlt _ hf; omega)).trans o1, ⟨_, (k.upd.block _ (lt_of o2) (fun hf => by have := hlt _ hf; omega)).trans o2, ?_, fun k hk => by simp at hk⟩, ownsRow_base' ho (by omega), hn _ (Nat.le_refl _) (by omega), hn _ (by omega) (by omega), hout⟩
  unfold madeCells
  simp
end
end Go.Proofs.YtmgcaohpbaiiaaaGreatDoor
