/- The law's world: a space, what it must be now, what it was behind the last Commit. -/
import Derived.Test.YtdoankamaobkoaaGreatDoorS3
set_option linter.unusedSimpArgs false
set_option linter.unusedVariables false
namespace Go.Proofs.YtdoankamaobkoaaGreatDoor
open Go.RowKit Go.Maps Go.Shelf

theorem SIn.updG {w0 w w' : World} {s d : Nat} {F G : Nat → Prop} {n N : Int} {V D : Int → ByteArray} (h : SIn w0 w s d F n V D N) (hu : Upd G w w') (hFG : ∀ b, F b → ¬ G b) (hs : ¬ G s) (hn : ∀ b, G b → w0.heap.size ≤ b) : SIn w0 w' s d F n V D N := by
  obtain ⟨p, S, hP, hS, hc⟩ := h.ex
  have hB : Below w0.heap.size w0 w' := h.below.trans (hu.toBelow h.below.size fun x hx hg => by have := hn x hg; omega)
  exact ⟨⟨p, S, ⟨hP.pat.upd hu (fun b hb e => hFG b hb e), hP.new, hB⟩, hS, (hu.block s (lt_of hc) hs).trans hc⟩, h.new, h.out, h.glob⟩
/-- the world's block -/
def wdObj (d s r1 r2 : Nat) : Obj := .cells #[.pointer (some ⟨d, 0, none⟩), .pointer (some ⟨s, 0, none⟩), .pointer (some ⟨r1, 0, none⟩), .pointer (some ⟨r2, 0, none⟩)] 33 (0, 0)
structure Dw (w0 w : World) (W s d : Nat) (F : Nat → Prop) (z : Int) (V D : Int → ByteArray) (N : Int) (r1 lo1 hi1 : Nat) (R1 : Rf) (r2 lo2 hi2 : Nat) (R2 : Rf) : Prop where
  sin : SIn w0 w s d F z V D N
  out : Out w W F (wdObj d s r1 r2)
  now : RIn w r1 lo1 hi1 z R1
  was : RIn w r2 lo2 hi2 z R2
  ap1 : Apart F lo1 hi1 w
  ap2 : Apart F lo2 hi2 w
  segs : hi1 ≤ lo2 ∨ hi2 ≤ lo1
  w1 : W < lo1 ∨ hi1 ≤ W
  w2 : W < lo2 ∨ hi2 ≤ W
  s1 : s < lo1 ∨ hi1 ≤ s
  s2 : s < lo2 ∨ hi2 ≤ s
  n1 : w0.heap.size ≤ lo1
  n2 : w0.heap.size ≤ lo2
  nw : w0.heap.size ≤ W
  ws : W ≠ s
  fl : ∀ b, F b → b < w.heap.size
section
variable {w0 w w' : World} {W s d : Nat} {F : Nat → Prop} {z N N' : Int} {V D V' D' : Int → ByteArray} {r1 lo1 hi1 r2 lo2 hi2 : Nat} {R1 R2 R1' R2' : Rf}
theorem Dw.space (h : Dw w0 w W s d F z V D N r1 lo1 hi1 R1 r2 lo2 hi2 R2) (k : SStp w0 w w' s d F z V' D' N') : Dw w0 w' W s d (ext F w w') z V' D' N' r1 lo1 hi1 R1 r2 lo2 hi2 R2 :=
  ⟨k.sin, h.out.step k.upd, h.now.upd k.upd h.ap1.no, h.was.upd k.upd h.ap2.no, h.ap1.step k.upd.size, h.ap2.step k.upd.size, h.segs, h.w1, h.w2, h.s1, h.s2, h.n1, h.n2, h.nw, h.ws,
    fun b hb => hb.elim (fun hb => by have := h.fl b hb; have := k.upd.size; omega) (fun hb => hb.2)⟩
theorem Dw.made (h : Dw w0 w W s d F z V D N r1 lo1 hi1 R1 r2 lo2 hi2 R2) (hB : Below w.heap.size w w') : Dw w0 w' W s d F z V D N r1 lo1 hi1 R1 r2 lo2 hi2 R2 :=
  ⟨h.sin.made hB, h.out.made hB, h.now.made hB, h.was.made hB, h.ap1.made hB.size, h.ap2.made hB.size, h.segs, h.w1, h.w2, h.s1, h.s2, h.n1, h.n2, h.nw, h.ws, fun b hb => by have := h.fl b hb; have := hB.size; omega⟩
theorem Dw.mono (h : Dw w0 w W s d F z V D N r1 lo1 hi1 R1 r2 lo2 hi2 R2) (hle : N ≤ N') : Dw w0 w W s d F z V D N' r1 lo1 hi1 R1 r2 lo2 hi2 R2 :=
  ⟨h.sin.mono hle, h.out, h.now, h.was, h.ap1, h.ap2, h.segs, h.w1, h.w2, h.s1, h.s2, h.n1, h.n2, h.nw, h.ws, h.fl⟩
theorem Dw.ref (h : Dw w0 w W s d F z V D N r1 lo1 hi1 R1 r2 lo2 hi2 R2) (hR : RIn w' r1 lo1 hi1 z R1') (hu : Upd (seg lo1 hi1) w w') : Dw w0 w' W s d F z V D N r1 lo1 hi1 R1' r2 lo2 hi2 R2 := by
  have hs := hu.size
  refine ⟨h.sin.updG hu (fun b hb hg => h.ap1.no b hg.1 hg.2 hb) (fun hg => by have := h.s1; have := hg.1; have := hg.2; omega) (fun b hg => by have := h.n1; have := hg.1; omega), ⟨(hu.block W (lt_of h.out.obj) (fun hg => by have := h.w1; have := hg.1; have := hg.2; omega)).trans h.out.obj, h.out.out⟩,
    hR, h.was.upd hu (fun b h1 h2 hg => by have := h.segs; have := hg.1; have := hg.2; omega), h.ap1.made hs, h.ap2.made hs, h.segs, h.w1, h.w2, h.s1, h.s2, h.n1, h.n2, h.nw, h.ws, fun b hb => by have := h.fl b hb; omega⟩
theorem Dw.cells (h : Dw w0 w W s d F z V D N r1 lo1 hi1 R1 r2 lo2 hi2 R2) : w.cell? ⟨W, 0, none⟩ = some (.pointer (some ⟨d, 0, none⟩)) ∧ w.cell? ⟨W, 1, none⟩ = some (.pointer (some ⟨s, 0, none⟩)) ∧ w.cell? ⟨W, 2, none⟩ = some (.pointer (some ⟨r1, 0, none⟩)) ∧ w.cell? ⟨W, 3, none⟩ = some (.pointer (some ⟨r2, 0, none⟩)) ∧ (∀ i, w.frozen? ⟨W, i, none⟩ = false) :=
  ⟨cell_in h.out.obj rfl, cell_in h.out.obj rfl, cell_in h.out.obj rfl, cell_in h.out.obj rfl, fun i => frozen_of h.out.obj i⟩
theorem Dw.setW (h : Dw w0 w W s d F z V D N r1 lo1 hi1 R1 r2 lo2 hi2 R2) (i : Nat) (u : Value) : SIn w0 (w.setCell ⟨W, i, none⟩ u) s d F z V D N ∧ RIn (w.setCell ⟨W, i, none⟩ u) r1 lo1 hi1 z R1 ∧ RIn (w.setCell ⟨W, i, none⟩ u) r2 lo2 hi2 z R2 ∧ (w.setCell ⟨W, i, none⟩ u).heap.size = w.heap.size := by
  have hu : Upd (fun b => b = W) w (w.setCell ⟨W, i, none⟩ u) := Upd.setCell (F := fun b => b = W) (Upd.refl _ w) ⟨W, i, none⟩ (fun _ => rfl) u
  refine ⟨h.sin.setCell h.nw h.out.out h.ws i u, h.now.upd hu (fun b h1 h2 e => by have := h.w1; omega), h.was.upd hu (fun b h1 h2 e => by have := h.w2; omega), by simp⟩
/-- what it was becomes a copy of what it is -/
theorem Dw.keep (h : Dw w0 w W s d F z V D N r1 lo1 hi1 R1 r2 lo2 hi2 R2) {x : Nat} (hB : Below w.heap.size w w') (hx : RIn w' x w.heap.size w'.heap.size z R1) : Dw w0 (w'.setCell ⟨W, 3, none⟩ (.pointer (some ⟨x, 0, none⟩))) W s d F z V D N r1 lo1 hi1 R1 x w.heap.size w'.heap.size R1 := by
  have h' := h.made hB
  obtain ⟨a1, a2, a3, a4⟩ := h'.setW 3 (.pointer (some ⟨x, 0, none⟩))
  have hWl := lt_of h.out.obj
  have hu : Upd (fun b => b = W) w' (w'.setCell ⟨W, 3, none⟩ (.pointer (some ⟨x, 0, none⟩))) := Upd.setCell (F := fun b => b = W) (Upd.refl _ w') ⟨W, 3, none⟩ (fun _ => rfl) _
  have hsl := h.sin.slt
  have t1 := h.ap1.top
  refine ⟨a1, ⟨heap_setCell_same h'.out.obj 3 _, h.out.out⟩, a2, hx.upd hu (fun b h1 h2 e => by omega), ⟨by rw [a4]; exact h'.ap1.top, h.ap1.no⟩, ⟨by rw [a4]; omega, fun b h1 h2 hb => by have := h.fl b hb; omega⟩, .inl t1, h.w1, .inl hWl, h.s1, .inl hsl, h.n1, ?_, h.nw, h.ws, fun b hb => by rw [a4]; exact h'.fl b hb⟩
  exact h.sin.below.size
/-- what it is becomes a copy of what it was -/
theorem Dw.back (h : Dw w0 w W s d F z V D N r1 lo1 hi1 R1 r2 lo2 hi2 R2) {x : Nat} (hB : Below w.heap.size w w') (hx : RIn w' x w.heap.size w'.heap.size z R2) : Dw w0 (w'.setCell ⟨W, 2, none⟩ (.pointer (some ⟨x, 0, none⟩))) W s d F z V D N x w.heap.size w'.heap.size R2 r2 lo2 hi2 R2 := by
  have h' := h.made hB
  obtain ⟨a1, a2, a3, a4⟩ := h'.setW 2 (.pointer (some ⟨x, 0, none⟩))
  have hWl := lt_of h.out.obj
  have hu : Upd (fun b => b = W) w' (w'.setCell ⟨W, 2, none⟩ (.pointer (some ⟨x, 0, none⟩))) := Upd.setCell (F := fun b => b = W) (Upd.refl _ w') ⟨W, 2, none⟩ (fun _ => rfl) _
  have hsl := h.sin.slt
  have t2 := h.ap2.top
  refine ⟨a1, ⟨heap_setCell_same h'.out.obj 2 _, h.out.out⟩, hx.upd hu (fun b h1 h2 e => by omega), a3, ⟨by rw [a4]; omega, fun b h1 h2 hb => by have := h.fl b hb; omega⟩, ⟨by rw [a4]; exact h'.ap2.top, h.ap2.no⟩, .inr t2, .inl hWl, h.w2, .inl hsl, h.s2, ?_, h.n2, h.nw, h.ws, fun b hb => by rw [a4]; exact h'.fl b hb⟩
  exact h.sin.below.size
end
end Go.Proofs.YtdoankamaobkoaaGreatDoor
