/- The fixed fact that is asked ahead of each statement on trees: it holds. -/
import Derived.Test.YtmgcaohpbaiiaaaGreatDoorTWake
set_option linter.unusedSimpArgs false
set_option linter.unusedVariables false
namespace Go.Proofs.YtmgcaohpbaiiaaaGreatDoor
open Go.RowKit Go.Maps Go.Shelf

theorem wk_e1 : wkA.toList.isEmpty = false := by rw [ByteArray.toList_eq]; rfl
theorem wk_e2 : wkB.toList.isEmpty = false := by rw [ByteArray.toList_eq]; rfl
theorem ints_one {W : World} {B : Nat} {ao : Option Addr} {co : Nat} {i : Int} (h : W.ownsRow B 3 1 (.slice ao 1 co) 1 [.int .i64 i]) : ∃ g, ao = some ⟨g, 0, none⟩ ∧ W.cell? ⟨g, 0, none⟩ = some (.int .i64 i) := by
  rcases h.2 with ⟨hv, h0⟩ | ⟨g, cap, cur, hv, hb, hg, hn, hm, hs, ht⟩
  · omega
  · simp at hv
    obtain ⟨rfl, rfl⟩ := hv
    exact ⟨g, rfl, by rw [h.cellAt 0 (by omega)]; rfl⟩
theorem Row.two {W : World} {F : Nat → Prop} {B : Nat} {v : Value} {x y : Ent} (h : Row W F B v [x, y]) : ∃ g c, v = .slice (some ⟨g, 0, none⟩) 2 c ∧ W.cell? ⟨g, 0, none⟩ = some (.string x.1) ∧ W.cell? ⟨g, 0 + 1, none⟩ = some (.string x.2) := by
  obtain ⟨ao, c, hv, hr, h1, h2, -⟩ := h.parts
  obtain ⟨g, off, e, c1, c2⟩ := hr.at (i := 0) (by simp)
  subst e
  obtain ⟨ao2, c3, hv2, hr2, -⟩ := h.own.parts
  have ho := h.own
  rw [hv] at ho
  obtain ⟨g', cur, e, -⟩ := ho.block
  injection e with e1 e2
  subst e1; subst e2
  exact ⟨g, c, hv, by simpa using c1, by simpa using c2⟩
set_option maxHeartbeats 4000000 in
set_option maxRecDepth 100000 in
theorem twakes_any (w : World) (hg : Glob w) : Calls Tryz.prog 8 #[] w fun e w' => e = .returned (.bool true) ∧ Below w.heap.size w w' := by
  have HR := Lib.hid (room_any (w0 := w) (w := w) 64 (by omega) (by omega) (Below.refl _ _) hg)
  clear hg
  go_enter Tryz.func8, Tryz.ntmps8
  go_wp2_with fail
  refine HR.out.mono ?_
  rintro e w1 ⟨s, d, F1, V1, rfl, hS, hF, hV⟩
  have h2 := wk_new_at hS hF hV (by omega)
  clear HR hS hF hV
  go_wp2_with fail
  refine h2.mono ?_
  rintro e w2 ⟨F2, V2, rfl, hT, hV⟩
  have HT := Lib.hid hT.sin
  have HL := Lib.hid hT.lt
  have HV := Lib.hid hV
  have ha := at_any (s := s) 35 w2
  clear h2 hT hV
  go_wp2_with fail
  refine ha.mono ?_
  rintro e w3 ⟨rfl, hw3⟩
  have h3 := TIn.at_new HT.out HL.out HV.out 35
  rw [← hw3] at h3
  have h4 := wk_put_at h3 wkB wk1 _ wk_l1 wk_o1 (by decide) (by decide) wk_e2 (by omega)
  clear ha hw3 HT HL HV h3
  go_wp2_with fail
  refine h4.mono ?_
  rintro e w4 ⟨F4, V4, rfl, hr⟩
  have h5 := wk_put_at hr.tin wkA wk2 _ wk_l2 wk_o2 (by decide) (by decide) wk_e1 (by omega)
  clear h4 hr
  go_wp2_with fail
  refine h5.mono ?_
  rintro e w5 ⟨F5, V5, rfl, hr⟩
  have h6 := wk_list_at hr.tin (by omega)
  clear h5 hr
  go_wp2_with fail
  refine h6.mono ?_
  rintro e w6 ⟨F6, v, rfl, ht, ho, hof⟩
  have hR6 : Row w6 F6 w5.heap.size v [(wkA, wk2), (wkB, wk1)] := ⟨ho, hof⟩
  have h7 := wk_del_at ht (by omega)
  have HR6 := Lib.hid hR6
  clear h6 ht ho hof hR6
  go_wp2_with fail
  refine h7.mono ?_
  rintro e w7 ⟨F7, V7, rfl, hr⟩
  have hR7 := hr.tst.keeps _ _ _ HR6.out
  have h8 := tpages_leaf hr.tin _ (TSw_load _) (by simp) (by omega)
  have HR7 := Lib.hid hR7
  clear h7 hr HR6 hR7
  go_wp2_with fail
  refine h8.mono ?_
  rintro e w8 ⟨F8, ao, co, rfl, hr, ho⟩
  obtain ⟨g1, rfl, c1⟩ := ints_one ho
  have hR8 := hr.tst.keeps _ _ _ HR7.out
  obtain ⟨g2, c2, rfl, b1, b2⟩ := hR8.two
  have HB := Lib.hid hr.tin.sin.below
  clear h8 hr ho HR7 hR8
  have e1 : wkA = ⟨#[97]⟩ := rfl
  have e2 : wk2 = ⟨#[50]⟩ := rfl
  simp only [e1, e2] at b1 b2
  clear e1 e2
  have b3 : w8.cell? ⟨g2, 1, none⟩ = some (.string ⟨#[50]⟩) := b2
  go_wp2
  go_ret
  exact ⟨rfl, HB.out⟩
end Go.Proofs.YtmgcaohpbaiiaaaGreatDoor
