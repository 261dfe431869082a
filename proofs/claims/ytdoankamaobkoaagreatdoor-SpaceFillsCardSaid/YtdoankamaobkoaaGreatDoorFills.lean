/- The map of a space, as which pages are taken; what its calls make of it. -/
import Derived.Test.YtdoankamaobkoaaGreatDoorBegin
set_option linter.unusedSimpArgs false
set_option linter.unusedVariables false
namespace Go.Proofs.YtdoankamaobkoaaGreatDoor
open Go.RowKit Go.Maps Go.Shelf

/-- which of the user's pages are taken -/
structure MapIs (n : Int) (V : Int → ByteArray) (f : Nat → Bool) : Prop where
  bits : ∀ j, j < spMany n → bitB (V (jFirst n)) (j + 1) = f j
section
variable {n : Int} {V : Int → ByteArray} {f : Nat → Bool} {k : Nat}
theorem MapIs.next (h : MapIs n V f) (hk : k < spMany n) (ha : ∀ j, j < k → f j = true) (hf : f k = false) : spNext n (V (jFirst n)) = some k :=
  next_some hk (fun j hj => (h.bits j (by omega)).trans (ha j hj)) ((h.bits k hk).trans hf)
theorem MapIs.full (h : MapIs n V f) (ha : ∀ j, j < spMany n → f j = true) : spNext n (V (jFirst n)) = none :=
  next_none fun j hj => (h.bits j hj).trans (ha j hj)
theorem MapIs.taken (h : MapIs n V f) (h1 : 64 ≤ n) (h2 : n ≤ 2048) (hk : k < spMany n) : spTaken n V (jFirst n + 1 + (k : Int)) = if f k then 0 else 8 := by
  obtain ⟨m1, m2, m3⟩ := spMany_bd h1 h2
  unfold spTaken
  rw [if_neg (by omega), show (jFirst n + 1 + (k : Int) - jFirst n).toNat = k + 1 by omega, h.bits k hk]
theorem MapIs.got (h : MapIs n V f) (hk : k < spMany n) (hsz : (V (jFirst n)).size = 256) (hm : spMany n ≤ 1022) (hf : f k = false) : MapIs n (spGot n V k) (fun j => f j || decide (j = k)) := by
  refine ⟨fun j hj => ?_⟩
  have : spGot n V k (jFirst n) = flipB (V (jFirst n)) (k + 1) := by unfold spGot; rw [upd_other _ (by omega), upd_same]
  rw [this, bitB_flip _ (by omega)]
  by_cases e : j = k
  · subst e
    rw [if_pos rfl, h.bits j hj, hf]; simp
  · rw [if_neg (by omega), h.bits j hj]; simp [e]
theorem MapIs.back (h : MapIs n V f) (hk : k < spMany n) (hsz : (V (jFirst n)).size = 256) (hm : spMany n ≤ 1022) (hf : f k = true) :
    MapIs n (upd V (jFirst n) (flipB (V (jFirst n)) (k + 1))) (fun j => f j && !decide (j = k)) := by
  refine ⟨fun j hj => ?_⟩
  rw [upd_same, bitB_flip _ (by omega)]
  by_cases e : j = k
  · subst e
    rw [if_pos rfl, h.bits j hj, hf]; simp
  · rw [if_neg (by omega), h.bits j hj]; simp [e]
theorem MapIs.congr {g : Nat → Bool} (h : MapIs n V f) (hg : ∀ j, j < spMany n → f j = g j) : MapIs n V g := ⟨fun j hj => (h.bits j hj).trans (hg j hj)⟩
theorem takenTo_all {x : ByteArray} {k : Nat} (h : ∀ j, j < k → bitB x (j + 1) = true) : (takenTo n x k).length = k := by
  unfold takenTo
  rw [List.length_map]
  have : ((List.range k).filter fun j => bitB x (j + 1)) = List.range k := List.filter_eq_self.2 fun j hj => h j (List.mem_range.1 hj)
  rw [this, List.length_range]
theorem MapIs.free (h : MapIs n V f) (ha : ∀ j, j < spMany n → f j = true) : spFree n V = 0 := by
  unfold spFree
  rw [takenTo_all fun j hj => (h.bits j hj).trans (ha j hj)]
  omega
end
theorem map_new (n : Int) : MapIs (spSize n) (spV n) (fun _ => false) := ⟨fun j _ => by unfold spV; rw [spLaid_first]; exact bit_one j⟩

/-- a block that is none of the space's -/
structure Out (w : World) (g : Nat) (F : Nat → Prop) (o : Obj) : Prop where
  obj : w.heap[g]? = some o
  out : ¬ F g
theorem Out.step {w w' : World} {g : Nat} {F : Nat → Prop} {o : Obj} (h : Out w g F o) (hu : Upd F w w') : Out w' g (ext F w w') o :=
  ⟨(hu.block g (lt_of h.obj) h.out).trans h.obj, fun hx => hx.elim h.out (fun hx => by have := lt_of h.obj; omega)⟩
theorem Out.made {w w' : World} {g : Nat} {F : Nat → Prop} {o : Obj} (h : Out w g F o) (hB : Below w.heap.size w w') : Out w' g F o := ⟨(hB.block g (lt_of h.obj)).trans h.obj, h.out⟩
theorem SIn.setCell {w0 w : World} {s d g : Nat} {F : Nat → Prop} {n N : Int} {V D : Int → ByteArray} (h : SIn w0 w s d F n V D N) (hn : w0.heap.size ≤ g) (ho : ¬ F g) (hs : g ≠ s) (i : Nat) (v : Value) : SIn w0 (w.setCell ⟨g, i, none⟩ v) s d F n V D N := by
  obtain ⟨p, S, hP, hS, hc⟩ := h.ex
  refine ⟨⟨p, S, ⟨hP.pat.upd (G := fun b => b = g) (Upd.setCell (F := fun b => b = g) (Upd.refl _ w) ⟨g, i, none⟩ (fun _ => rfl) v) (fun b hb e => ho (e ▸ hb)), hP.new, hP.below.setCell hn v⟩, hS, (setCell_other (fun e => hs e.symm)).trans hc⟩, h.new, h.out, h.glob⟩
end Go.Proofs.YtdoankamaobkoaaGreatDoor
