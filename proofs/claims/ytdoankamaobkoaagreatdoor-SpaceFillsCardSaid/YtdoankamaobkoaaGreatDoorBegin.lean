/- begin: a space on a new disk, and what it must be. -/
import Derived.Test.YtdoankamaobkoaaGreatDoorRefNew
set_option linter.unusedSimpArgs false
set_option linter.unusedVariables false
namespace Go.Proofs.YtdoankamaobkoaaGreatDoor
open Go.RowKit Go.Maps Go.Shelf

theorem SIn.lt {w0 w : World} {s d : Nat} {F : Nat → Prop} {n N : Int} {V D : Int → ByteArray} (h : SIn w0 w s d F n V D N) : SIn w0 w s d (fun b => F b ∧ b < w.heap.size) n V D N := by
  obtain ⟨p, S, hP, hS, hc⟩ := h.ex
  exact ⟨⟨p, S, ⟨hP.pat.lt, fun b hb => hP.new b hb.1, hP.below⟩, hS, hc⟩, h.new, fun hx => h.out hx.1, h.glob⟩
/-- the reference's blocks -/
def refFp (r : Nat) (vp vt : Value) (b : Nat) : Prop := b = r ∨ vp.ownBlock = some b ∨ vt.ownBlock = some b
theorem RefAt.fp_lt {base : Nat} {w : World} {r : Nat} {vp vt : Value} {n : Int} {R : Rf} (h : RefAt base w r vp vt n R) {b : Nat} (hb : refFp r vp vt b) : base ≤ b ∧ b < w.heap.size := by
  rcases hb with rfl | hb | hb
  · exact ⟨h.new, lt_of h.obj⟩
  · exact h.pages.lt b hb
  · exact h.taken.lt b hb
/-- what a new space's pages show -/
def spV (n : Int) : Int → ByteArray := spLaid (spSize n) (newDsk (spSize n).toNat).blk
set_option maxHeartbeats 2000000 in
set_option maxRecDepth 100000 in
theorem begin_any (n room : Int) (hn : (Lit.int .i64 n).wf = true) (hr : (Lit.int .i64 room).wf = true) (w0 w : World) (hB0 : Below w0.heap.size w0 w) (hg : Glob w0) :
    Calls Tryz.prog 9 #[.int .i64 n, .int .i64 room] w fun e w' => ∃ (W s d : Nat) (F : Nat → Prop) (r1 r2 b1 b2 : Nat) (vp1 vt1 vp2 vt2 : Value), e = .returned (.pointer (some ⟨W, 0, none⟩)) ∧
      w'.heap[W]? = some (.cells #[.pointer (some ⟨d, 0, none⟩), .pointer (some ⟨s, 0, none⟩), .pointer (some ⟨r1, 0, none⟩), .pointer (some ⟨r2, 0, none⟩)] 33 (0, 0)) ∧
      SIn w0 w' s d F (spSize n) (spV n) (spV n) 5000 ∧ (∀ b, F b → b < b1) ∧ s < b1 ∧ b1 ≤ b2 ∧ b2 ≤ W ∧ w0.heap.size ≤ b1 ∧ RefAt b1 w' r1 vp1 vt1 (spSize n) (newRf (spMany (spSize n))) ∧ (∀ b, refFp r1 vp1 vt1 b → b < b2) ∧
      RefAt b2 w' r2 vp2 vt2 (spSize n) (newRf (spMany (spSize n))) ∧ (∀ b, refFp r2 vp2 vt2 b → b < W) := by
  have hs := spSize_bd n
  have HSZ := Lib.hid (fun W => size_any n W hn)
  have hkb := kindI_bd (k := room) (n := 20) (by omega)
  have HK := Lib.hid (fun W => kind_any room 20 W hr (by omega) (by omega))
  have HV : Hid (spV n = spLaid (spSize n) (newDsk (spSize n).toNat).blk) := rfl
  obtain ⟨z, hz⟩ : ∃ z : Nat, spSize n = z := ⟨(spSize n).toNat, by omega⟩
  rw [hz] at hs HSZ HV ⊢
  have hz1 : 64 ≤ z := by omega
  have hz2 : z ≤ 103 := by omega
  have HN : Hid (∀ W, Calls Tryz.prog 22 #[.int .i64 (z : Int)] W fun e w' => ∃ r vp vt, e = .returned (.pointer (some ⟨r, 0, none⟩)) ∧ RefAt W.heap.size w' r vp vt z (newRf (spMany z)) ∧ Below W.heap.size W w') := fun W => rnew_any z W (by omega) (by omega)
  have HV2 : Hid (spV n = spLaid z (newDsk z).blk) := by have := HV.out; rwa [show ((z : Int)).toNat = z by omega] at this
  have HB0 := Lib.hid hB0
  have HG := Lib.hid hg
  obtain ⟨q, HQ⟩ : ∃ q, Hid (kindI room 20 = q) := ⟨_, Lib.hid rfl⟩
  rw [HQ.out] at HK hkb
  clear hz HV hs hB0 hg HQ
  go_enter Tryz.func9, Tryz.ntmps9
  go_wp2_with fail
  refine (HSZ.out _).mono ?_
  rintro e w1 ⟨rfl, rfl⟩
  go_wp2_with fail
  refine (diskNew_any z w (by omega) (by omega)).mono ?_
  rintro e w2 ⟨d, bb, rfl, hD, hd, hbb, hB⟩
  have hs0 := HB0.out.size
  have HO := Lib.hid (open_new (room := 1 + q) (HB0.out.trans (hB.mono hs0)) HG.out hD (by omega) (by omega) (by omega) (by omega) hz1 (by omega))
  clear hD hB hd hbb
  go_wp2_with (go_at_call 30; refine (HK.out _).mono ?_; rintro e w' ⟨rfl, rfl⟩)
  refine HO.out.mono ?_
  rintro e w3 ⟨s, F, rfl, hS, _, _⟩
  have HS := Lib.hid hS.lt
  have HSL := Lib.hid hS.slt
  clear hS HO
  go_wp2_with (go_at_call 11; refine (HSZ.out _).mono ?_; rintro e w' ⟨rfl, rfl⟩)
  refine (HN.out w3).mono ?_
  rintro e w4 ⟨r1, vp1, vt1, rfl, hR1, hB4⟩
  have HR1 := Lib.hid hR1
  have HB4 := Lib.hid hB4
  clear hR1 hB4
  go_wp2_with (go_at_call 11; refine (HSZ.out _).mono ?_; rintro e w' ⟨rfl, rfl⟩)
  refine (HN.out w4).mono ?_
  rintro e w5 ⟨r2, vp2, vt2, rfl, hR2, hB5⟩
  have HR2 := Lib.hid hR2
  have HB5 := Lib.hid hB5
  clear hR2 hB5
  go_wp2
  go_ret
  have h4 := HB4.out.size
  have h5 := HB5.out.size
  have hA := (Below.refl _ w5).alloc (Nat.le_refl _) (.cells #[.pointer (some ⟨d, 0, none⟩), .pointer (some ⟨s, 0, none⟩), .pointer (some ⟨r1, 0, none⟩), .pointer (some ⟨r2, 0, none⟩)] 33)
  have hBB := HB4.out.trans (HB5.out.mono h4)
  refine ⟨w5.heap.size, s, d, fun b => F b ∧ b < w3.heap.size, r1, r2, w3.heap.size, w4.heap.size, vp1, vt1, vp2, vt2, rfl, heap_alloc_new' _ _, ?_, fun b hb => hb.2, HSL.out, h4, h5, ?_, (HR1.out.made HB5.out).made hA, fun b hb => (HR1.out.fp_lt hb).2, HR2.out.made hA, fun b hb => (HR2.out.fp_lt hb).2⟩
  · rw [HV2.out]; exact (HS.out.made hBB).made ((hA.mono (Nat.le_refl _)))
  · exact HS.out.below.size
end Go.Proofs.YtdoankamaobkoaaGreatDoor
