/- wakes answers true. -/
import Derived.Test.YtdoankamaobkoaaGreatP2
set_option linter.unusedSimpArgs false
set_option linter.unusedVariables false
namespace Go.Proofs.YtdoankamaobkoaaGreat
open Go.RowKit Go.Maps Go.Shelf

theorem page36 : isPage 64 36 = true := by decide
theorem page34 : isPage 64 34 = true := by decide
theorem wakes_states {x : ByteArray} (hx : x.size = 256) : ∃ S1 S2 : Pgr, (newPgr (newDsk 64) 2).store 36 x = (0, S1) ∧ S1.load 36 = ((x, 0), S1) ∧ (S1.load 34).2 = S2 ∧ S2.changed.length = 1 ∧ S2.held.length = 1 ∧ S2.reads = 1 ∧ S1.clock = 0 ∧ S1.reads = 0 ∧ S2.clock = 1 := by
  have hn : (newDsk 64).n = 64 := by simp [Dsk.n, newDsk]
  have e1 : (newPgr (newDsk 64) 2).store 36 x = (0, ⟨newDsk 64, 2, [], [(36, x)], 0, 0⟩) := by
    unfold Pgr.store Pgr.may newPgr
    simp only [hn, page36, if_true]
    simp [hx, get, del, ins]
  have e2 : (⟨newDsk 64, 2, [], [(36, x)], 0, 0⟩ : Pgr).load 36 = ((x, 0), ⟨newDsk 64, 2, [], [(36, x)], 0, 0⟩) := by
    unfold Pgr.load Pgr.may
    simp only [hn, page36, if_true]
    simp [get]
  have hr : (newDsk 64).read 34 = (zerosB 256, 0) := newDsk_read (by omega) (by omega)
  have e3 : ((⟨newDsk 64, 2, [], [(36, x)], 0, 0⟩ : Pgr).load 34).2 = ⟨newDsk 64, 2, [(34, ⟨zerosB 256, 0, 1⟩)], [(36, x)], 1, 1⟩ := by
    unfold Pgr.load Pgr.may Pgr.read
    simp only [hn, page34, if_true, hr]
    simp [get, Pgr.hold, Pgr.full, ins]
  exact ⟨_, _, e1, e2, e3, by simp⟩

set_option maxRecDepth 100000 in
set_option maxHeartbeats 2000000 in
theorem wakes_any (w : World) :
    Calls Tryz.prog 7 #[] w fun e w' => e = .returned (.bool true) ∧ Below w.heap.size w w' := by
  have hx := blockB_size ⟨#[120]⟩
  obtain ⟨S1, S2, e1, e2, e3, l1, l2, l3, k1, k2, k3⟩ := wakes_states hx
  have hb : ∀ W, Calls Tryz.prog 12 #[.string ⟨#[120]⟩] W fun e w' => e = .returned (.string (blockB ⟨#[120]⟩)) ∧ Below W.heap.size W w' := fun W => block_any _ W (by simp [ByteArray.size])
  have E1 := Lib.hid e1; have E2 := Lib.hid e2; have E3 := Lib.hid e3; have L1 := Lib.hid l1; have L2 := Lib.hid l2; have L3 := Lib.hid l3; have K1 := Lib.hid k1; have K2 := Lib.hid k2; have K3 := Lib.hid k3
  have HX := Lib.hid hx
  clear e1 e2 e3 l1 l2 l3 k1 k2 k3 hx
  generalize blockB ⟨#[120]⟩ = x at *
  go_enter Tryz.func7, Tryz.ntmps7
  go_wp2_with fail
  refine (diskNew_any 64 w (by omega) (by omega)).mono ?_
  rintro e w1 ⟨d, bb, rfl, hD, hd, hbb, hB⟩
  have HD := Lib.hid hD; have HB := Lib.hid hB
  clear hD hB
  go_wp2_with fail
  refine (new_in 64 2 w w1 HB.out (by omega) (by omega) (by omega) (by omega) d bb HD.out hd hbb).mono ?_
  rintro e w2 ⟨p, F, rfl, hP⟩
  have HP := Lib.hid hP
  clear hP HD HB
  go_wp2_with fail
  refine (hb _).mono ?_
  rintro e w3 ⟨rfl, hB⟩
  have HP3 := Lib.hid (HP.out.made hB)
  clear hB HP
  go_wp2_with fail
  have hS := store_in HP3.out 36 x (by decide) (by have := HX.out; omega)
  rw [E1.out] at hS
  refine hS.mono ?_
  rintro e w4 ⟨rfl, hP, _⟩
  have HP4 := Lib.hid hP
  clear hP hS HP3
  go_wp2_with fail
  have hS := load_in HP4.out 36 (by decide) (by have := K1.out; omega) (by have := K2.out; omega)
  rw [E2.out] at hS
  refine hS.mono ?_
  rintro e w5 ⟨rfl, hP, _⟩
  have HP5 := Lib.hid hP
  clear hP hS HP4
  go_wp2_with fail
  have hS := load_in HP5.out 34 (by decide) (by have := K1.out; omega) (by have := K2.out; omega)
  rw [E3.out] at hS
  refine hS.mono ?_
  rintro e w6 ⟨rfl, hP, _⟩
  have HP6 := Lib.hid hP
  clear hP hS HP5
  go_wp2_with fail
  refine (hb _).mono ?_
  rintro e w7 ⟨rfl, hB⟩
  have HP7 := Lib.hid (HP6.out.made hB)
  clear hB HP6
  go_wp2_with fail
  have hS := dirty_in HP7.out
  rw [L1.out] at hS
  refine hS.mono ?_
  rintro e w8 ⟨a1, c1, rfl, _, hP, _⟩
  have HP8 := Lib.hid hP
  clear hP hS HP7
  go_wp2_with fail
  have hS := held_in HP8.out (by have := K3.out; omega)
  rw [L2.out] at hS
  refine hS.mono ?_
  rintro e w9 ⟨a2, c2, ks, rfl, _, _, _, hP, _⟩
  have HP9 := Lib.hid hP
  clear hP hS HP8
  go_wp2_with fail
  have hS := reads_in HP9.out
  rw [L3.out] at hS
  refine hS.mono ?_
  rintro e w10 ⟨rfl, rfl⟩
  clear hS
  go_wp2
  go_ret
  exact ⟨rfl, HP9.out.below⟩
end Go.Proofs.YtdoankamaobkoaaGreat
