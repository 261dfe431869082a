/- pager.Load, Store, Pin, Unpin. -/
import Derived.Test.YtdoankamaobkoaaGreatDoorOk
set_option linter.unusedSimpArgs false
set_option linter.unusedVariables false
namespace Go.Proofs.YtdoankamaobkoaaGreatDoor
open Go.RowKit Go.Maps

/-- behind a call: the pager is S', on the blocks that it had and new ones; nothing else has turned -/
structure Stp (F : Nat → Prop) (w w' : World) (p d : Nat) (S' : Pgr) : Prop where
  pat : PAt w' p d (ext F w w') S'
  upd : Upd F w w'

theorem Stp.refl {F : Nat → Prop} {w : World} {p d : Nat} {S : Pgr} (h : PAt w p d F S) : Stp F w w p d S := ⟨h.mono fun _ hb => .inl hb, Upd.refl _ _⟩
theorem Stp.of {F : Nat → Prop} {w w' : World} {L L' : PLoc} {S S' : Pgr} (hF : ∀ b, L.fp S b → F b) (h : Held w w' L S S' L') (hok : S'.Ok) : Stp F w w' L.p L.d S' :=
  ⟨⟨L', h.p, h.d, h.at_, fun b hb => (h.fp b hb).imp (hF b) id, hok⟩, h.upd.mono fun b _ hb => hF b hb⟩
theorem Stp.same {F : Nat → Prop} {w w' : World} {L : PLoc} {S S' : Pgr} (hF : ∀ b, L.fp S b → F b) (h : PagerAt w' L S') (hf : ∀ b, L.fp S' b → L.fp S b) (hu : Upd (L.fp S) w w') (hok : S'.Ok) : Stp F w w' L.p L.d S' :=
  ⟨⟨L, rfl, rfl, h, fun b hb => .inl (hF b (hf b hb)), hok⟩, hu.mono fun b _ hb => hF b hb⟩
theorem PAt.lt {w : World} {p d : Nat} {F : Nat → Prop} {S : Pgr} (h : PAt w p d F S) : PAt w p d (fun b => F b ∧ b < w.heap.size) S := by
  obtain ⟨L, rfl, rfl, hA, hF, hok⟩ := h
  exact ⟨L, rfl, rfl, hA, fun b hb => ⟨hF b hb, hA.fp_lt hb⟩, hok⟩
theorem Stp.trans {F : Nat → Prop} {a b c : World} {p d : Nat} {S S' : Pgr} (h : Stp F a b p d S) (k : Stp (ext F a b) b c p d S') : Stp F a c p d S' := by
  refine ⟨k.pat.mono fun x hx => ?_, h.upd.then k.upd fun x hx hf => ?_⟩
  · have h1 := h.upd.size
    have h2 := k.upd.size
    rcases hx with (hx | hx) | hx
    · exact .inl hx
    · exact .inr ⟨hx.1, by omega⟩
    · exact .inr ⟨by omega, hx.2⟩
  · rcases hf with hf | hf
    · exact hf
    · omega

theorem hold_at {w : World} {L : PLoc} {S : Pgr} (h : PagerAt w L S) (hok : S.Ok) (i : Int) (s : ByteArray) (hi : get i S.held = none) (hpg : isPage S.disk.n i = true) (hc : S.clock < 4611686018427387904) :
    Calls Tryz.prog 73 #[.pointer (some ⟨L.p, 0, none⟩), .int .i64 i, .string s] w fun e w' =>
      ∃ L' v, e = .returned v ∧ Held w w' L S (S.hold i s) L' ∧ ((S.full && (oldest S.held).isNone) = true → v = .pointer none) ∧ ((S.full && (oldest S.held).isNone) = false → v = .pointer (some ⟨L'.blk i, 0, none⟩)) := by
  rw [Pgr.hold_eq]
  cases hf : S.full
  · refine (hold_room h hok i s hi hpg hf hc).mono ?_
    rintro e w' ⟨L', he, hH⟩
    exact ⟨L', _, he, by simpa using hH, by simp, fun _ => rfl⟩
  · cases ho : oldest S.held with
    | none =>
      refine (hold_none h hok i s hf ho).mono ?_
      rintro e w' ⟨he, hB⟩
      refine ⟨L, _, he, ?_, fun _ => rfl, by simp⟩
      have hs : (if true = true then S else S.holdIn S.held i s) = S := by simp
      exact ⟨below_pager hB h, rfl, rfl, fun b hb => .inl hb, Upd.below hB fun x hx hle => absurd hx (Nat.not_lt.2 hle)⟩
    | some o =>
      refine (hold_full h hok i s hi hpg hf o ho hc).mono ?_
      rintro e w' ⟨L', he, hH⟩
      exact ⟨L', _, he, by simpa using hH, by simp, fun _ => rfl⟩

theorem use_fp {S : Pgr} {L : PLoc} {i : Int} {x y : Pg} (hx : get i S.held = some x) {b : Nat} (hb : L.fp (S.use i y) b) : L.fp S b := by
  rcases hb with h | h | h | h | h | h | ⟨q, hq, h⟩
  · exact .inl h
  · exact .inr (.inl h)
  · exact .inr (.inr (.inl h))
  · exact .inr (.inr (.inr (.inl h)))
  · exact .inr (.inr (.inr (.inr (.inl h))))
  · exact .inr (.inr (.inr (.inr (.inr (.inl h)))))
  · rcases mem_ins hq with rfl | hq
    · exact .inr (.inr (.inr (.inr (.inr (.inr ⟨_, get_mem hx, h⟩)))))
    · exact .inr (.inr (.inr (.inr (.inr (.inr ⟨q, hq, h⟩)))))

set_option maxRecDepth 100000 in
set_option maxHeartbeats 1000000 in
theorem load_at {w : World} {p d : Nat} {F : Nat → Prop} {S : Pgr} (h : PAt w p d F S) (i : Int) (hwf : (Lit.int .i64 i).wf = true) (hc : S.clock < 4611686018427387904) (hr : S.reads < 4611686018427387904) :
    Calls Tryz.prog 50 #[.pointer (some ⟨p, 0, none⟩), .int .i64 i] w fun e w' =>
      e = .returned (.tuple #[.string (S.load i).1.1, .int .i64 (S.load i).1.2]) ∧ Stp F w w' p d (S.load i).2 := by
  have HLO := Lib.hid (load_ok (S := S) (by obtain ⟨_, _, _, _, _, hok⟩ := h; exact hok) i)
  have HP := Lib.hid h
  obtain ⟨L, rfl, rfl, hA, hF, hok⟩ := h
  have HF := Lib.hid hF
  have HOK := Lib.hid hok
  have hM := pmay_any hA i
  have c2 := cell_of hA.p 2
  have c3 := cell_of hA.p 3
  simp at c2 c3
  by_cases hm : S.may i = 0
  · have hl1 := hA.changed.look_ok (k := i) Tryz.underlying108 (zero_str _) hwf
    have hl2 := hA.held.look (k := i) Tryz.underlying107 (zero_page _) hwf
    rw [changedV_eq, mapV_get] at hl1
    rw [heldV_eq, mapV_get] at hl2
    rw [hm] at hM
    cases hcg : get i S.changed with
    | some s =>
      have e1 : S.load i = ((s, 0), S) := by unfold Pgr.load; rw [if_neg (by simpa using hm), hcg]
      rw [e1]
      rw [hcg] at hl1
      simp at hl1
      clear hl2 hcg e1 hm hF hA hok HLO
      go_enter Tryz.func50, Tryz.ntmps50
      go_wp2_with (go_at_call 84; refine hM.mono ?_; rintro e w' ⟨rfl, rfl⟩)
      go_ret2
      exact ⟨rfl, Stp.refl HP.out⟩
    | none =>
      rw [hcg] at hl1
      simp at hl1
      cases hx : get i S.held with
      | some x =>
        have e1 : S.load i = ((x.data, 0), S.use i x) := by unfold Pgr.load; rw [if_neg (by simpa using hm), hcg, hx]
        rw [e1]
        rw [hx] at hl2
        simp at hl2
        have hU := use_at hA hok.srt hx ⟨hok.clock, hc⟩
        have hxm := hok.held _ (get_mem hx)
        simp only at hxm
        have HX := Lib.hid hx
        have HOU := Lib.hid (use_ok hok hx hxm.2.1 hxm.2.2.2.2)
        clear hcg e1 hm hF hA hok hx hxm HLO
        go_enter Tryz.func50, Tryz.ntmps50
        go_wp2_with (go_at_call 84; refine hM.mono ?_; rintro e w' ⟨rfl, rfl⟩)
        refine hU.mono ?_
        rintro e w1 ⟨rfl, hP1, hU1⟩
        have d0 : w1.cell? ⟨L.blk i, 0, none⟩ = some (.string x.data) := by
          rw [cell_of (hP1.page (i, { x with used := S.clock + 1 }) (get_mem get_ins_same)) 0]; rfl
        have HP1 := Lib.hid hP1
        have HU1 := Lib.hid hU1
        clear hP1 hU1
        go_wp2
        go_ret2
        exact ⟨rfl, Stp.same HF.out HP1.out (fun b hb => use_fp HX.out hb) HU1.out HOU.out⟩
      | none =>
        rw [hx] at hl2
        simp at hl2
        have hR := pread_at hA i ⟨hok.reads, hr⟩
        have HX := Lib.hid hx
        have HCG := Lib.hid hcg
        have HM := Lib.hid hm
        by_cases hz : (S.disk.read i).2 = 0
        · have e1 : S.load i = (((S.disk.read i).1, 0), (S.read i).2.hold i (S.disk.read i).1) := by
            unfold Pgr.load; rw [if_neg (by simpa using hm), hcg, hx]; simp only; rw [if_neg (by simpa using hz)]
          rw [hz] at hR
          rw [e1] at HLO ⊢
          clear hcg e1 hm hF hA hok hx hz
          go_enter Tryz.func50, Tryz.ntmps50
          go_wp2_with (go_at_call 84; refine hM.mono ?_; rintro e w' ⟨rfl, rfl⟩)
          refine hR.mono ?_
          rintro e w1 ⟨rfl, hP1, hU1⟩
          have HP1 := Lib.hid hP1
          have HU1 := Lib.hid hU1
          clear hP1 hU1
          go_wp2_with fail
          obtain ⟨r1, r2, r3, r4, r5, _⟩ := read_held S i
          refine (hold_at HP1.out (read_ok HOK.out i) i _ (by rw [r1]; exact HX.out) (by rw [r4]; exact may_zero.1 HM.out) (by rw [r3]; exact hc)).mono ?_
          rintro e w2 ⟨L', v, rfl, hH, _, _⟩
          have HH := Lib.hid hH
          clear hH r1 r2 r3 r4 r5
          go_wp2
          go_ret2
          refine ⟨rfl, ?_⟩
          have h2 := HH.out
          refine ⟨⟨L', h2.p, h2.d, h2.at_, fun b hb => ?_, HLO.out⟩, ?_⟩
          · have hs := HU1.out.size
            have hs2 := h2.upd.size
            rcases h2.fp b hb with hb | hb
            · exact .inl (HF.out b (by obtain ⟨r1, _⟩ := read_held S i; unfold PLoc.fp at hb ⊢; rw [r1] at hb; exact hb))
            · exact .inr ⟨by omega, hb.2⟩
          · refine (HU1.out.then h2.upd fun b _ hb => ?_).mono fun b _ hb => HF.out b hb
            obtain ⟨r1, _⟩ := read_held S i; unfold PLoc.fp at hb ⊢; rw [r1] at hb; exact hb
        · have e1 : S.load i = ((⟨#[]⟩, (S.disk.read i).2), S) := by
            unfold Pgr.load; rw [if_neg (by simpa using hm), hcg, hx]; simp only; rw [if_pos hz]
          have hS : (S.read i).2 = S := by simp [Pgr.read, hz]
          rw [hS] at hR
          rw [e1]
          have hz' : ((S.disk.read i).2 != 0) = true := by simpa using hz
          clear hcg e1 hm hF hA hok hx hz hS HLO
          generalize (S.disk.read i).2 = er at *
          go_enter Tryz.func50, Tryz.ntmps50
          go_wp2_with (go_at_call 84; refine hM.mono ?_; rintro e w' ⟨rfl, rfl⟩)
          refine hR.mono ?_
          rintro e w1 ⟨rfl, hP1, hU1⟩
          have HP1 := Lib.hid hP1
          have HU1 := Lib.hid hU1
          clear hP1 hU1
          go_wp2
          go_ret2
          exact ⟨rfl, Stp.same HF.out HP1.out (fun b hb => hb) HU1.out HOK.out⟩
  · have e1 : S.load i = ((⟨#[]⟩, S.may i), S) := by unfold Pgr.load; rw [if_pos hm]
    rw [e1]
    have hm' : (S.may i != 0) = true := by simpa using hm
    clear e1 hm hF hA hok HLO
    generalize S.may i = m at *
    go_enter Tryz.func50, Tryz.ntmps50
    go_wp2_with (go_at_call 84; refine hM.mono ?_; rintro e w' ⟨rfl, rfl⟩)
    go_ret2
    exact ⟨rfl, Stp.refl HP.out⟩
end Go.Proofs.YtdoankamaobkoaaGreatDoor
