/- pager.Pin. -/
import Derived.Test.YtdoankamaobkoaaGreatPin
import Derived.StillTailTactics
set_option linter.unusedSimpArgs false
set_option linter.unusedVariables false
namespace Go.Proofs.YtdoankamaobkoaaGreat
open Go.RowKit Go.Maps

theorem hold_clock (S : Pgr) (i : Int) (s : ByteArray) : S.clock ≤ (S.hold i s).clock ∧ (S.hold i s).clock ≤ S.clock + 1 := by
  rw [Pgr.hold_eq]
  split
  · split
    · omega
    · simp [Pgr.holdIn]; omega
  · simp [Pgr.holdIn]; omega
theorem hold_get {S : Pgr} {i : Int} {s : ByteArray} (h : (S.full && (oldest S.held).isNone) = false) : ∃ ck, Hid (get i (S.hold i s).held = some ⟨s, 0, ck⟩) := by
  rw [Pgr.hold_eq]
  cases hF : S.full
  · rw [if_neg (by simp)]; exact ⟨_, get_ins_same⟩
  · rw [if_pos rfl]
    cases ho : oldest S.held with
    | none => simp [hF, ho] at h
    | some o => exact ⟨_, get_ins_same⟩

set_option maxRecDepth 100000 in
set_option maxHeartbeats 2000000 in
theorem pin_at {w : World} {p d : Nat} {F : Nat → Prop} {S : Pgr} (h : PAt w p d F S) (i : Int) (hwf : (Lit.int .i64 i).wf = true) (hc : S.clock < 4611686018427387900) (hr : S.reads < 4611686018427387904)
    (hpin : ∀ x, get i S.held = some x → x.pins < 4611686018427387904) :
    Calls Tryz.prog 19 #[.pointer (some ⟨p, 0, none⟩), .int .i64 i] w fun e w' =>
      e = .returned (.int .i64 (S.pin i).1) ∧ Stp F w w' p d (S.pin i).2 := by
  have HPO := Lib.hid (pin_ok (S := S) (by obtain ⟨_, _, _, _, _, hok⟩ := h; exact hok) i)
  have HP := Lib.hid h
  obtain ⟨L, rfl, rfl, hA, hF, hok⟩ := h
  have HF := Lib.hid hF
  have HOK := Lib.hid hok
  have HA := Lib.hid hA
  have HC := Lib.hid hc
  have HR0 := Lib.hid hr
  have hM := pmay_any hA i
  have c1 := cell_of hA.p 1
  have c2 := cell_of hA.p 2
  have c3 := cell_of hA.p 3
  simp at c1 c2 c3
  by_cases hm : S.may i = 0
  · have hl1 := hA.changed.look_ok (k := i) Tryz.underlying69 (zero_str _) hwf
    have hl2 := hA.held.look (k := i) Tryz.underlying68 (zero_page _) hwf
    rw [changedV_eq, mapV_get] at hl1
    rw [heldV_eq, mapV_get] at hl2
    rw [hm] at hM
    have HM := Lib.hid hm
    cases hcg : get i S.changed with
    | some s =>
      have e1 : S.pin i = (19, S) := by unfold Pgr.pin; rw [if_neg (by simpa using hm), hcg]
      rw [e1]
      rw [hcg] at hl1
      simp at hl1
      clear hl2 hcg e1 hm hF hA hok hpin hc hr
      go_enter Tryz.func19, Tryz.ntmps19
      go_wp2_with (go_at_call 33; refine hM.mono ?_; rintro e w' ⟨rfl, rfl⟩)
      go_ret
      exact ⟨rfl, Stp.refl HP.out⟩
    | none =>
      rw [hcg] at hl1
      simp at hl1
      have HCG := Lib.hid hcg
      cases hx : get i S.held with
      | some x =>
        have e1 : S.pin i = (0, S.use i { x with pins := x.pins + 1 }) := by unfold Pgr.pin; rw [if_neg (by simpa using hm), hcg, hx]
        have hpo := HPO.out
        rw [e1] at hpo ⊢
        have HPO' := Lib.hid hpo
        rw [hx] at hl2
        simp at hl2
        have hU := use_at hA hok.srt hx ⟨hok.clock, by omega⟩
        have hxm := (hok.held _ (get_mem hx)).2.1
        simp only at hxm
        have HX := Lib.hid hx
        have hpl := hpin x hx
        clear hcg e1 hm hF hA hok hx hpin hc hr hpo HPO
        go_enter Tryz.func19, Tryz.ntmps19
        go_wp2_with (go_at_call 33; refine hM.mono ?_; rintro e w' ⟨rfl, rfl⟩)
        refine hU.mono ?_
        rintro e w1 ⟨rfl, hP1, hU1⟩
        have hpg := hP1.page (i, { x with used := S.clock + 1 }) (get_mem get_ins_same)
        simp only at hpg
        have b1 := cell_of hpg 1
        have f1 := frozen_of hpg 1
        simp at b1
        have H4 := Lib.hid (hP1.turnPage (srt_ins HOK.out.srt) (i := i) (x := { x with used := S.clock + 1 }) (y := { x with used := S.clock + 1, pins := x.pins + 1 }) get_ins_same
          (w' := w1.setCell ⟨L.blk i, 1, none⟩ (.int .i64 (x.pins + 1))) (by rw [heap_setCell_same hpg]; simp) (fun b hb => Below.heap_setCell _ _ _ _ hb))
        have HU3 := Lib.hid (hU1.setCell ⟨L.blk i, 1, none⟩ (fun _ => .inr (.inr (.inr (.inr (.inr (.inr ⟨_, get_mem HX.out, rfl⟩)))))) (.int .i64 (x.pins + 1)))
        clear hP1 hU1 hpg hU
        go_wp2
        go_ret
        refine ⟨rfl, ?_⟩
        have h4 := H4.out
        simp only [Pgr.use, ins_ins] at h4
        exact Stp.same HF.out h4 (fun b hb => use_fp HX.out hb) HU3.out HPO'.out
      | none =>
        rw [hx] at hl2
        simp at hl2
        have HX := Lib.hid hx
        have hlen := fun n => (hA.held.congr (w' := w.drewN n) rfl).len Tryz.underlying68 3
        rw [heldV_eq, mapV_length] at hlen
        have hrb := hok.room
        clear hcg hm hF hA hok hx hpin hc hr
        cases hf : S.full
        · have hfull : (S.held.length : Int) < S.room := by simpa [Pgr.full] using hf
          have HFN := Lib.hid (show (S.full && (oldest S.held).isNone) = false by rw [hf]; simp)
          clear hf
          generalize hR : S.room = R at *
          have HR := Lib.hid hR
          clear hR
          generalize hln : S.held.length = ln at *
          have HLN := Lib.hid hln
          clear hln
          have hd : decide (R ≤ (ln : Int)) = false := by simpa using hfull
          go_enter Tryz.func19, Tryz.ntmps19
          go_wp2_with (go_at_call 33; refine hM.mono ?_; rintro e w' ⟨rfl, rfl⟩)
          go_quiet (fail)
          have hPX := HA.out.drewN nq
          have hUX := (Upd.refl (L.fp S) w).drewN nq
          generalize w.drewN nq = wX at *
          have HPX := Lib.hid hPX
          have HUX := Lib.hid hUX
          clear hPX hUX
          have hR := pread_at HPX.out i ⟨HOK.out.reads, HR0.out⟩
          by_cases hz : (S.disk.read i).2 = 0
          · have e1 : S.pin i = (0, (((S.read i).2.hold i (S.disk.read i).1)).use i ⟨(S.disk.read i).1, 1, 0⟩) := by
              unfold Pgr.pin; rw [if_neg (by simpa using HM.out), HCG.out, HX.out]; simp only; rw [if_neg (by rw [HFN.out]; simp), if_neg (by simpa using hz)]
            have HE1 := Lib.hid e1
            rw [hz] at hR
            have HSZ := Lib.hid (read_size HOK.out hz)
            clear e1 hz
            go_wp2_with fail
            refine hR.mono ?_
            rintro e w1 ⟨rfl, hP1, hU1⟩
            have HP1 := Lib.hid hP1
            have HU1 := Lib.hid hU1
            clear hP1 hU1 hR
            go_wp2_with fail
            obtain ⟨r1, r2, r3, r4, r5, _⟩ := read_held S i
            have HR1 := Lib.hid r1
            have hH := hold_at HP1.out (read_ok HOK.out i) i (S.disk.read i).1 (by rw [r1]; exact HX.out) (by rw [r4]; exact may_zero.1 HM.out) (by rw [r3]; have := HC.out; omega)
            have HFN' := Lib.hid (show ((S.read i).2.full && (oldest (S.read i).2.held).isNone) = false by rw [show (S.read i).2.full = S.full from by (unfold Pgr.full; rw [r1, r5]), r1]; exact HFN.out)
            have HCK := Lib.hid (show 0 ≤ ((S.read i).2.hold i (S.disk.read i).1).clock ∧ ((S.read i).2.hold i (S.disk.read i).1).clock < 4611686018427387904 by
              have h1 := hold_clock (S.read i).2 i (S.disk.read i).1; rw [r3] at h1; have := HC.out; have := HOK.out.clock; omega)
            have HHO := Lib.hid (hold_ok (read_ok HOK.out i) (s := (S.disk.read i).1) (by rw [r1]; exact HX.out) (by rw [r2]; exact HCG.out) (by rw [r4]; exact may_zero.1 HM.out) HSZ.out)
            obtain ⟨ck, HG⟩ : ∃ ck, Hid (get i ((S.read i).2.hold i (S.disk.read i).1).held = some ⟨(S.disk.read i).1, 0, ck⟩) := hold_get HFN'.out
            clear r1 r2 r3 r4 r5
            refine hH.mono ?_
            rintro e w2 ⟨L', v, rfl, hH2, _, hv⟩
            obtain rfl := hv HFN'.out
            clear hv
            have HH := Lib.hid hH2
            have e2 : L'.p = L.p := hH2.p
            have hu := use_at hH2.at_ HHO.out.srt HG.out HCK.out
            rw [e2] at hu
            have HE2 := Lib.hid e2
            clear hH hH2 e2
            go_wp2_with fail
            refine hu.mono ?_
            rintro e w3 ⟨rfl, hP3, hU3⟩
            have hpg := hP3.page (i, ⟨(S.disk.read i).1, 0, ((S.read i).2.hold i (S.disk.read i).1).clock + 1⟩) (get_mem get_ins_same)
            simp only at hpg
            have b1 := cell_of hpg 1
            have f1 := frozen_of hpg 1
            simp at b1
            have H4 := Lib.hid (hP3.turnPage (srt_ins HHO.out.srt) (i := i) (x := ⟨(S.disk.read i).1, 0, ((S.read i).2.hold i (S.disk.read i).1).clock + 1⟩) (y := ⟨(S.disk.read i).1, 1, ((S.read i).2.hold i (S.disk.read i).1).clock + 1⟩) get_ins_same
              (w' := w3.setCell ⟨L'.blk i, 1, none⟩ (.int .i64 1)) (by rw [heap_setCell_same hpg]; simp) (fun b hb => Below.heap_setCell _ _ _ _ hb))
            have HU3 := Lib.hid (hU3.setCell ⟨L'.blk i, 1, none⟩ (fun _ => .inr (.inr (.inr (.inr (.inr (.inr ⟨_, get_mem HG.out, rfl⟩)))))) (.int .i64 1))
            clear hP3 hU3 hpg hu
            go_wp2
            go_ret
            refine ⟨by rw [HE1.out]; rfl, ?_⟩
            have h4 := H4.out
            simp only [Pgr.use, ins_ins] at h4
            have h2 := HH.out
            have hpo := HPO.out
            rw [HE1.out] at hpo ⊢
            have rfp : ∀ b, L.fp (S.read i).2 b → L.fp S b := fun b hb => by unfold PLoc.fp at hb ⊢; rw [HR1.out] at hb; exact hb
            have hs := HUX.out.size
            have hs1 := HU1.out.size
            have hs2 := h2.upd.size
            have hs3 := HU3.out.size
            have ufp : ∀ b, L'.fp (((S.read i).2.hold i (S.disk.read i).1).use i ⟨(S.disk.read i).1, 1, 0⟩) b → L.fp S b ∨ (w.heap.size ≤ b ∧ b < w2.heap.size) := fun b hb => by
              rcases h2.fp b (use_fp HG.out hb) with h | h
              · exact .inl (rfp b h)
              · exact .inr ⟨by omega, h.2⟩
            refine ⟨⟨L', HE2.out, h2.d, h4, fun b hb => ?_, hpo⟩, ?_⟩
            · rcases ufp b hb with h | h
              · exact .inl (HF.out b h)
              · exact .inr ⟨h.1, by omega⟩
            · refine Upd.mono (F := L.fp S) ?_ fun b _ hb => HF.out b hb
              refine ((HUX.out.then HU1.out fun b _ hb => hb).then h2.upd fun b _ hb => rfp b hb).then HU3.out fun b hlt hb => ?_
              rcases h2.fp b hb with h | h
              · exact rfp b h
              · omega
          · have e1 : S.pin i = ((S.disk.read i).2, S) := by
              unfold Pgr.pin; rw [if_neg (by simpa using HM.out), HCG.out, HX.out]; simp only; rw [if_neg (by rw [HFN.out]; simp), if_pos hz]
            have hS : (S.read i).2 = S := by simp [Pgr.read, hz]
            rw [hS] at hR
            have HE1 := Lib.hid e1
            have hz' : ((S.disk.read i).2 != 0) = true := by simpa using hz
            clear e1 hz hS
            generalize hgr : (S.disk.read i).2 = er at *
            have HGR := Lib.hid hgr
            clear hgr
            go_wp2_with fail
            refine hR.mono ?_
            rintro e w1 ⟨rfl, hP1, hU1⟩
            have HP1 := Lib.hid hP1
            have HU1 := Lib.hid hU1
            clear hP1 hU1 hR
            go_wp2
            go_ret
            have hpo := HPO.out
            rw [HE1.out] at hpo ⊢
            exact ⟨rfl, Stp.same HF.out HP1.out (fun b hb => hb) (HUX.out.trans HU1.out) hpo⟩
        · have hfull : S.room ≤ (S.held.length : Int) := by simpa [Pgr.full] using hf
          have hO := fun W (hW : PagerAt W L S) => oldest_at hW HOK.out
          have hDU : Upd (L.fp S) w ({ w with drawn := w.drawn + 1 } : World) := (Upd.refl _ w).drew
          have hDR : PagerAt ({ w with drawn := w.drawn + 1 } : World) L S := HA.out.keep fun _ _ => rfl
          have hlen1 := (hDR.held).len Tryz.underlying68 3
          rw [heldV_eq, mapV_length] at hlen1
          have d1 : ({ w with drawn := w.drawn + 1 } : World).cell? ⟨L.p, 1, none⟩ = some (.int .i64 S.room) := c1
          have d2 : ({ w with drawn := w.drawn + 1 } : World).cell? ⟨L.p, 2, none⟩ = some (.map (some L.h)) := c2
          have HDR := Lib.hid hDR
          have HDU := Lib.hid hDU
          have HO := Lib.hid hO
          clear hDR hO hDU
          cases ho : oldest S.held with
          | none =>
            have hpo := HPO.out
            have e1 : S.pin i = (10, S) := by
              unfold Pgr.pin; rw [if_neg (by simpa using HM.out), HCG.out, HX.out]; simp only; rw [if_pos (by rw [hf, ho]; rfl)]
            rw [e1]
            have HOL := Lib.hid (show oldN S.held = -1 from by unfold oldN; rw [ho])
            clear hf e1 hpo ho
            generalize hR : S.room = R at *
            have HR := Lib.hid hR
            clear hR
            generalize hln : S.held.length = ln at *
            have HLN := Lib.hid hln
            clear hln
            have hd : decide (R ≤ (ln : Int)) = true := by simpa using hfull
            go_enter Tryz.func19, Tryz.ntmps19
            go_wp2_with (go_at_call 33; refine hM.mono ?_; rintro e w' ⟨rfl, rfl⟩)
            refine wp_region_still_tail 12 (by kernel_rfl) (by kernel_rfl) ?_
            generalize ({ w with drawn := w.drawn + 1 } : World) = wd at *
            simp only [List.take_succ_cons, List.take_zero, List.drop_succ_cons, List.drop_zero]
            repeat still_step
            refine wpStill_nil ?_
            go_wp2_with fail
            have h1 := HO.out _ HDR.out
            rw [HOL.out] at h1
            refine h1.mono ?_
            rintro e w1 ⟨rfl, hB⟩
            have HB := Lib.hid hB
            clear hB h1
            go_wp2
            go_ret
            have hP1 := below_pager HB.out HDR.out
            exact ⟨rfl, Stp.same HF.out hP1 (fun b hb => hb) (HDU.out.trans ⟨HB.out.os, HB.out.tape, HB.out.output, HB.out.size, fun b hb _ => HB.out.block b hb⟩) HOK.out⟩
          | some o =>
            have HFN := Lib.hid (show (S.full && (oldest S.held).isNone) = false by rw [ho]; simp)
            obtain ⟨xo, hmo, _⟩ := oldest_mem ho
            have ho0 : 0 ≤ o := (isPage_bd (HOK.out.held _ hmo).1).1
            have HOL := Lib.hid (show oldN S.held = o from by unfold oldN; rw [ho])
            clear hf ho hmo
            generalize hR : S.room = R at *
            have HR := Lib.hid hR
            clear hR
            generalize hln : S.held.length = ln at *
            have HLN := Lib.hid hln
            clear hln
            have hd : decide (R ≤ (ln : Int)) = true := by simpa using hfull
            go_enter Tryz.func19, Tryz.ntmps19
            go_wp2_with (go_at_call 33; refine hM.mono ?_; rintro e w' ⟨rfl, rfl⟩)
            refine wp_region_still_tail 12 (by kernel_rfl) (by kernel_rfl) ?_
            generalize ({ w with drawn := w.drawn + 1 } : World) = wd at *
            simp only [List.take_succ_cons, List.take_zero, List.drop_succ_cons, List.drop_zero]
            repeat still_step
            refine wpStill_nil ?_
            go_wp2_with fail
            have h1 := HO.out _ HDR.out
            rw [HOL.out] at h1
            refine h1.mono ?_
            rintro e wX ⟨rfl, hB⟩
            have hPX := below_pager hB HDR.out
            have hUX : Upd (L.fp S) w wX := HDU.out.trans ⟨hB.os, hB.tape, hB.output, hB.size, fun b hb _ => hB.block b hb⟩
            clear hB h1
            have HPX := Lib.hid hPX
            have HUX := Lib.hid hUX
            clear hPX hUX
            have hR := pread_at HPX.out i ⟨HOK.out.reads, HR0.out⟩
            by_cases hz : (S.disk.read i).2 = 0
            · have e1 : S.pin i = (0, (((S.read i).2.hold i (S.disk.read i).1)).use i ⟨(S.disk.read i).1, 1, 0⟩) := by
                unfold Pgr.pin; rw [if_neg (by simpa using HM.out), HCG.out, HX.out]; simp only; rw [if_neg (by rw [HFN.out]; simp), if_neg (by simpa using hz)]
              have HE1 := Lib.hid e1
              rw [hz] at hR
              have HSZ := Lib.hid (read_size HOK.out hz)
              clear e1 hz
              go_wp2_with fail
              refine hR.mono ?_
              rintro e w1 ⟨rfl, hP1, hU1⟩
              have HP1 := Lib.hid hP1
              have HU1 := Lib.hid hU1
              clear hP1 hU1 hR
              go_wp2_with fail
              obtain ⟨r1, r2, r3, r4, r5, _⟩ := read_held S i
              have HR1 := Lib.hid r1
              have hH := hold_at HP1.out (read_ok HOK.out i) i (S.disk.read i).1 (by rw [r1]; exact HX.out) (by rw [r4]; exact may_zero.1 HM.out) (by rw [r3]; have := HC.out; omega)
              have HFN' := Lib.hid (show ((S.read i).2.full && (oldest (S.read i).2.held).isNone) = false by rw [show (S.read i).2.full = S.full from by (unfold Pgr.full; rw [r1, r5]), r1]; exact HFN.out)
              have HCK := Lib.hid (show 0 ≤ ((S.read i).2.hold i (S.disk.read i).1).clock ∧ ((S.read i).2.hold i (S.disk.read i).1).clock < 4611686018427387904 by
                have h1 := hold_clock (S.read i).2 i (S.disk.read i).1; rw [r3] at h1; have := HC.out; have := HOK.out.clock; omega)
              have HHO := Lib.hid (hold_ok (read_ok HOK.out i) (s := (S.disk.read i).1) (by rw [r1]; exact HX.out) (by rw [r2]; exact HCG.out) (by rw [r4]; exact may_zero.1 HM.out) HSZ.out)
              obtain ⟨ck, HG⟩ : ∃ ck, Hid (get i ((S.read i).2.hold i (S.disk.read i).1).held = some ⟨(S.disk.read i).1, 0, ck⟩) := hold_get HFN'.out
              clear r1 r2 r3 r4 r5
              refine hH.mono ?_
              rintro e w2 ⟨L', v, rfl, hH2, _, hv⟩
              obtain rfl := hv HFN'.out
              clear hv
              have HH := Lib.hid hH2
              have e2 : L'.p = L.p := hH2.p
              have hu := use_at hH2.at_ HHO.out.srt HG.out HCK.out
              rw [e2] at hu
              have HE2 := Lib.hid e2
              clear hH hH2 e2
              go_wp2_with fail
              refine hu.mono ?_
              rintro e w3 ⟨rfl, hP3, hU3⟩
              have hpg := hP3.page (i, ⟨(S.disk.read i).1, 0, ((S.read i).2.hold i (S.disk.read i).1).clock + 1⟩) (get_mem get_ins_same)
              simp only at hpg
              have b1 := cell_of hpg 1
              have f1 := frozen_of hpg 1
              simp at b1
              have H4 := Lib.hid (hP3.turnPage (srt_ins HHO.out.srt) (i := i) (x := ⟨(S.disk.read i).1, 0, ((S.read i).2.hold i (S.disk.read i).1).clock + 1⟩) (y := ⟨(S.disk.read i).1, 1, ((S.read i).2.hold i (S.disk.read i).1).clock + 1⟩) get_ins_same
                (w' := w3.setCell ⟨L'.blk i, 1, none⟩ (.int .i64 1)) (by rw [heap_setCell_same hpg]; simp) (fun b hb => Below.heap_setCell _ _ _ _ hb))
              have HU3 := Lib.hid (hU3.setCell ⟨L'.blk i, 1, none⟩ (fun _ => .inr (.inr (.inr (.inr (.inr (.inr ⟨_, get_mem HG.out, rfl⟩)))))) (.int .i64 1))
              clear hP3 hU3 hpg hu
              go_wp2
              go_ret
              refine ⟨by rw [HE1.out]; rfl, ?_⟩
              have h4 := H4.out
              simp only [Pgr.use, ins_ins] at h4
              have h2 := HH.out
              have hpo := HPO.out
              rw [HE1.out] at hpo ⊢
              have rfp : ∀ b, L.fp (S.read i).2 b → L.fp S b := fun b hb => by unfold PLoc.fp at hb ⊢; rw [HR1.out] at hb; exact hb
              have hs := HUX.out.size
              have hs1 := HU1.out.size
              have hs2 := h2.upd.size
              have hs3 := HU3.out.size
              have ufp : ∀ b, L'.fp (((S.read i).2.hold i (S.disk.read i).1).use i ⟨(S.disk.read i).1, 1, 0⟩) b → L.fp S b ∨ (w.heap.size ≤ b ∧ b < w2.heap.size) := fun b hb => by
                rcases h2.fp b (use_fp HG.out hb) with h | h
                · exact .inl (rfp b h)
                · exact .inr ⟨by omega, h.2⟩
              refine ⟨⟨L', HE2.out, h2.d, h4, fun b hb => ?_, hpo⟩, ?_⟩
              · rcases ufp b hb with h | h
                · exact .inl (HF.out b h)
                · exact .inr ⟨h.1, by omega⟩
              · refine Upd.mono (F := L.fp S) ?_ fun b _ hb => HF.out b hb
                refine ((HUX.out.then HU1.out fun b _ hb => hb).then h2.upd fun b _ hb => rfp b hb).then HU3.out fun b hlt hb => ?_
                rcases h2.fp b hb with h | h
                · exact rfp b h
                · omega
            · have e1 : S.pin i = ((S.disk.read i).2, S) := by
                unfold Pgr.pin; rw [if_neg (by simpa using HM.out), HCG.out, HX.out]; simp only; rw [if_neg (by rw [HFN.out]; simp), if_pos hz]
              have hS : (S.read i).2 = S := by simp [Pgr.read, hz]
              rw [hS] at hR
              have HE1 := Lib.hid e1
              have hz' : ((S.disk.read i).2 != 0) = true := by simpa using hz
              clear e1 hz hS
              generalize hgr : (S.disk.read i).2 = er at *
              have HGR := Lib.hid hgr
              clear hgr
              go_wp2_with fail
              refine hR.mono ?_
              rintro e w1 ⟨rfl, hP1, hU1⟩
              have HP1 := Lib.hid hP1
              have HU1 := Lib.hid hU1
              clear hP1 hU1 hR
              go_wp2
              go_ret
              have hpo := HPO.out
              rw [HE1.out] at hpo ⊢
              exact ⟨rfl, Stp.same HF.out HP1.out (fun b hb => hb) (HUX.out.trans HU1.out) hpo⟩
  · have e1 : S.pin i = (S.may i, S) := by unfold Pgr.pin; rw [if_pos hm]
    rw [e1]
    have hm' : (S.may i != 0) = true := by simpa using hm
    clear e1 hm hF hA hok hpin hc hr
    generalize S.may i = m at *
    go_enter Tryz.func19, Tryz.ntmps19
    go_wp2_with (go_at_call 33; refine hM.mono ?_; rintro e w' ⟨rfl, rfl⟩)
    go_ret
    exact ⟨rfl, Stp.refl HP.out⟩
end Go.Proofs.YtdoankamaobkoaaGreat
