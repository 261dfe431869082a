/- A slice of acts that came in: its cells. -/
import Derived.Test.YtmgcaohpbaiiaaaGreatDoorTPlaysWalk
import Derived.Deep.Slices
import Derived.Deep.Fields
import Derived.ChangeSame
set_option linter.unusedSimpArgs false
set_option linter.unusedVariables false
namespace Go.Proofs.YtmgcaohpbaiiaaaGreatDoor
open Go.ChangeShapes Go.WideShapes Go.Deep Go.RowKit

theorem act_cells : Tryz.prog.cellsOf 35 = 4 := by kernel_rfl
theorem act_fields : ∃ f0 f1 f2 f3 : Field, Tryz.prog.underlying 35 = some (.struct #[f0, f1, f2, f3]) ∧ f0.type = 3 ∧ f1.type = 9 ∧ f2.type = 9 ∧ f3.type = 3 ∧ f0.offset = 0 ∧ f1.offset = 1 ∧ f2.offset = 2 ∧ f3.offset = 3 :=
  ⟨_, _, _, _, Tryz.underlying35, rfl, rfl, rfl, rfl, rfl, rfl, rfl, rfl⟩
theorem cells_int : Tryz.prog.cellsOf 3 = 1 := by kernel_rfl
theorem cells_string : Tryz.prog.cellsOf 9 = 1 := by kernel_rfl

set_option maxRecDepth 100000 in
theorem acts_open {H : Type} {enc : TypeId × Value → H} {W : World} {base : Nat} {spare : Nat → Bool} {held : Bool} {fuel : Nat} {a : Option Addr} {len cap : Nat} {x : DataW H × List MemPlace}
    (h : DataW.trod enc Tryz.prog W base spare held fuel 22 [.slice a len cap] = some x) : RowActs W a len := by
  rcases open_slice Tryz.underlying22 h with ⟨h0, _⟩ | ⟨a', len', cap', m, n, D, Pl, hcs, hb, hl, hm, hmm, hx, hi⟩
  · simp at h0
    obtain ⟨rfl, rfl, rfl⟩ := h0
    exact fun i hi => by omega
  · simp at hcs
    obtain ⟨rfl, rfl, rfl⟩ := hcs
    subst hx
    refine fun i hil => ?_
    obtain ⟨cs, hc, ht⟩ := hi i (by rw [hmm]; split <;> omega)
    rw [act_cells] at hc
    obtain ⟨f0, f1, f2, f3, hu, t0, t1, t2, t3, o0, o1, o2, o3⟩ := act_fields
    obtain ⟨ys, n', _, hDi, hlen, hyl, hf⟩ := DataW.trod_struct hu ht
    obtain ⟨_, hcl, hat⟩ := World.cells?_some hc
    rw [act_cells] at hlen
    match cs, hlen with
    | [v0, v1, v2, v3], _ =>
      have g0 := hf 0 f0 rfl
      have g1 := hf 1 f1 rfl
      have g2 := hf 2 f2 rfl
      have g3 := hf 3 f3 rfl
      rw [t0, o0, cells_int] at g0
      rw [t1, o1, cells_string] at g1
      rw [t2, o2, cells_string] at g2
      rw [t3, o3, cells_int] at g3
      match ys, hyl with
      | [y0, y1, y2, y3], _ =>
        obtain ⟨k, e0, _, w0⟩ := DataW.trod_int Tryz.underlying3 g0
        obtain ⟨s1, e1, _, _⟩ := DataW.trod_string Tryz.underlying9 g1
        obtain ⟨s2, e2, _, _⟩ := DataW.trod_string Tryz.underlying9 g2
        obtain ⟨k3, e3, _, w3⟩ := DataW.trod_int Tryz.underlying3 g3
        simp at e0 e1 e2 e3
        subst e0 e1 e2 e3
        have c0 := hat 0 (by omega)
        have c1 := hat 1 (by omega)
        have c2 := hat 2 (by omega)
        have c3 := hat 3 (by omega)
        rw [add_add] at c0 c1 c2 c3
        obtain ⟨b, off, sp⟩ := a'
        have hsp : sp = none := by
          cases sp with
          | none => rfl
          | some t =>
            obtain ⟨cs0, hcc, _⟩ := hi 0 (by rw [hmm]; split <;> omega)
            rw [act_cells] at hcc
            obtain ⟨_, hl0, hat0⟩ := World.cells?_some hcc
            have z := hat0 0 (by omega)
            rw [List.getElem?_eq_getElem (by omega)] at z
            simp only [Nat.zero_mul, Addr.add, if_true, World.cell?] at z
            split at z <;> simp at z
        subst hsp
        have hadd : ∀ j, Addr.add ⟨b, off, none⟩ j = ⟨b, off + j, none⟩ := by intro j; unfold Addr.add; split <;> simp_all
        rw [hadd] at c0 c1 c2 c3
        refine ⟨b, off, k, k3, s1, s2, rfl, World.block_lt_of_cell? W _ c0, ?_, w0, ?_, ?_, ?_⟩
        · simpa using c0
        · simpa [Nat.add_assoc] using c1
        · simpa [Nat.add_assoc] using c2
        · simpa [Nat.add_assoc] using c3
end Go.Proofs.YtmgcaohpbaiiaaaGreatDoor
