/- space.Open, wherever the power fails. -/
import Derived.Test.YtdoankamaobkoaaGreatDoorRecov
set_option linter.unusedSimpArgs false
set_option linter.unusedVariables false
namespace Go.Proofs.YtdoankamaobkoaaGreatDoor
open Go.RowKit Go.Maps Go.Shelf

theorem diskAt_same {w : World} {d bb bb' : Nat} {lg lg' : Value} {D D' : Dsk} (h : DiskAt w d bb lg D) (h' : DiskAt w d bb' lg' D') : bb' = bb ∧ lg' = lg := by
  have e := h.d
  rw [h'.d] at e
  simp at e
  exact ⟨e.1.1, e.2.1⟩
theorem Sp.congr {S : Pgr} {n N : Int} {V D V' D' : Int → ByteArray} (h : Sp S n V D N) (hv : ∀ i, isPage n i = true → V' i = V i) (hd : ∀ i, isPage n i = true → D' i = D i) : Sp S n V' D' N :=
  ⟨h.ok, h.sees, fun i hi => (h.view i hi).trans (hv i hi).symm, fun i hi => (h.disk i hi).trans (hd i hi).symm, h.jour⟩
/-- what Open comes to, wherever the power fails -/
structure OpenR (w0 w w' : World) (d : Nat) (G : Nat → Prop) (D : Dsk) (V : Int → ByteArray) (N : Int) (v : Value) (c : Int) : Prop where
  upd : Upd G w w'
  ex : ∃ bb lg D', DiskAt w' d bb lg D' ∧ (∀ b, dfp d bb lg b → G b ∨ w.heap.size ≤ b) ∧ D'.told = D.told ∧ D'.n = D.n ∧ (D'.log.length : Int) ≤ N + 9000 ∧
     ((c = 17 ∧ v = .pointer none ∧ D.told = true ∧ (Eff D' V ∨ Eff D' (vOpen D.n V))) ∨
      (c = 0 ∧ ∃ s, v = .pointer (some ⟨s, 0, none⟩) ∧ w.heap.size ≤ s ∧ Eff D' (vOpen D.n V) ∧
        (D.told = false → ∃ F, SIn w0 w' s d F D.n (vOpen D.n V) (vOpen D.n V) (N + 9000) ∧ ∀ b, F b → G b ∨ w.heap.size ≤ b)))
theorem pgOpen_log {D : Dsk} {room : Int} (h1 : 1 ≤ room) (n1 : 64 ≤ D.n) (n2 : D.n ≤ 2048) (hd : D.down = false) : ((pgOpen D room).2.disk.log.length : Int) ≤ D.log.length + 100 := by
  unfold pgOpen
  rw [newPgr_load h1 n1 hd]
  split
  · show (D.log.length : Int) ≤ _; omega
  · rw [pg_lay n1 n2 rfl rfl]
    have hl := commit_log D [((0 : Int), padB (spName D.n) 256), (jFirst D.n, padB ⟨#[1]⟩ 256)]
    have e : ∀ S : Pgr, S.commit.2.disk = (S.disk.commit S.changed).2 := fun S => by
      unfold Pgr.commit
      split
      · rfl
      · have : ∀ (l : Pgs) (S : Pgr), (S.holds l).disk = S.disk := fun l => by
          induction l with
          | nil => intro S; rfl
          | cons q l ih => intro S; exact (ih _).trans (hold_rest q.1 q.2).2.1
        simp only
        rw [this]; rfl
    rw [e]
    simp at hl ⊢
    omega
theorem openR_of {w0 w w' : World} {d s p : Nat} {G F : Nat → Prop} {D D1 : Dsk} {V : Int → ByteArray} {N room : Int} (h1 : 1 ≤ room) (h2 : room ≤ 1024) (hP : PIn w0 w' p d F (pgOpen D1 room).2) (hs : w'.heap[s]? = some (.cells #[.int .i64 D.n, .pointer (some ⟨p, 0, none⟩)] 76 (0, 0)))
    (hFs : ¬ F s) (hnew : w0.heap.size ≤ s) (hsw : w.heap.size ≤ s) (hg : Glob w0) (hF : ∀ b, F b → G b ∨ w.heap.size ≤ b) (hU : Upd G w w') (hr : RecD D D1 V 0) (hN : (D.log.length : Int) ≤ N) :
    OpenR w0 w w' d G D V N (if (pgOpen D1 room).1 = 0 then .pointer (some ⟨s, 0, none⟩) else .pointer none) (pgOpen D1 room).1 := by
  obtain ⟨hdn, hcl⟩ : D1.down = false ∧ CleanB D1.n D1.blk V := by
    rcases hr.way with ⟨_, a, b⟩ | ⟨a, _⟩
    · exact ⟨a, b⟩
    · cases a
  obtain ⟨n1, n2⟩ := hr.eff.n
  obtain ⟨c1, c2, c3⟩ := open_cut h1 hr.eff hdn hcl
  have hlog := pgOpen_log h1 n1 n2 hdn
  have hll := hr.log
  obtain ⟨L, hLp, hLd, hA, hfp, hok⟩ := hP.pat
  subst hLd
  rw [hr.n] at c3
  refine ⟨hU, L.bb, L.lg, _, hA.disk, fun b hb => hF b (hfp b (dfp_fp hb)), c1.trans hr.told, c2.trans hr.n, by omega, ?_⟩
  rcases c3 with ⟨a1, a2, a3, a4⟩ | ⟨a1, a2, a3, a4⟩
  · refine .inr ⟨a1, s, by rw [if_pos a1], hsw, a4, fun ht => ?_⟩
    obtain ⟨_, u2⟩ := open_up h1 h2 ⟨n1, n2⟩ hr.eff.sizes ⟨hr.told.trans ht, hdn⟩ hcl.1 (N := N + 2000) (by omega)
    rw [hr.n] at u2
    have hv : ∀ i, isPage D.n i = true → vOpen D.n V i = spOpened D1 i := fun i hi => by
      unfold vOpen spOpened
      have e0 := hcl.2 0 (page_zero _)
      have ei := hcl.2 i (by rw [hr.n]; exact hi)
      rw [hr.n, e0]
      split
      · exact ei.symm
      · unfold spLaid upd
        split
        · rfl
        · split
          · rfl
          · exact ei.symm
    exact ⟨F, ⟨⟨p, _, hP, (u2.congr hv hv).mono (by omega), hs⟩, hnew, hFs, hg⟩, hF⟩
  · exact .inl ⟨a1, by rw [if_neg (by omega)], by rw [← hr.told]; exact a2, a4⟩

set_option maxHeartbeats 2000000 in
set_option maxRecDepth 100000 in
theorem open_any {w0 w : World} {d bb : Nat} {lg : Value} {D : Dsk} {V : Int → ByteArray} {room N : Int} (hB0 : Below w0.heap.size w0 w) (hg : Glob w0) (hD : DiskAt w d bb lg D) (hF0 : ∀ b, dfp d bb lg b → w0.heap.size ≤ b)
    (h1 : 1 ≤ room) (h2 : room ≤ 1024) (he : Eff D V) (hd : D.down = false) (hleft : D.told = true → 0 ≤ D.left ∧ D.left < 9223372036854775808) (hN : (D.log.length : Int) ≤ N) (hNN : N < 800000000000) :
    Calls Tryz.prog 19 #[.pointer (some ⟨d, 0, none⟩), .int .i64 room] w fun e w' => ∃ v c, e = .returned (.tuple #[v, .int .i64 c]) ∧ OpenR w0 w w' d (dfp d bb lg) D V N v c := by
  have HNw := Lib.hid (pagerNew_ok hD room h1 h2 he.bd he.sizes)
  have HRC : Hid (∀ W, Below w.heap.size w W → _) := fun W hB => recover_any (w := W) (hD.below hB) he hd hleft (by omega)
  have HD := Lib.hid hD
  have HG := Lib.hid hg
  have HB0 := Lib.hid hB0
  have HF0 := Lib.hid hF0
  have HE := Lib.hid he
  have HNN := Lib.hid hN
  clear hD hg hB0 hF0 he hleft hN hd
  go_enter Tryz.func19, Tryz.ntmps19
  go_wp2_with fail
  refine HNw.out.mono ?_
  rintro e w1 ⟨p, rfl, hp, hP1, hB1⟩
  have HP1 := Lib.hid hP1
  have HB1 := Lib.hid hB1
  have HR1 := Lib.hid (HRC.out w1 hB1)
  clear hP1 hB1 HNw HRC
  go_wp2_with fail
  refine HR1.out.mono ?_
  rintro e w2 ⟨k, c, lg1, D1, rfl, hst, hrec⟩
  have HST := Lib.hid hst
  have HREC := Lib.hid hrec
  have hB1s := HB1.out.size
  have hs2 := hst.upd.size
  have HU2 : Hid (Upd (dfp d bb lg) w w2) := (Upd.below HB1.out (fun x hx hle => by omega)).trans hst.upd
  have hcc : c = 0 ∨ c = 17 := by rcases hrec.way with ⟨a, _⟩ | ⟨a, _⟩; exact .inl a; exact .inr a
  clear hst hrec HR1
  rcases hcc with rfl | rfl
  · obtain ⟨F0, HF0e⟩ : ∃ F0 : Nat → Prop, Hid (F0 = fun b => dfp d bb lg b ∨ (w.heap.size ≤ b ∧ b < w2.heap.size)) := ⟨_, Lib.hid rfl⟩
    have HP2 : Hid (PIn w0 w2 p d F0 (newPgr D1 room)) := by
      rw [HF0e.out]
      obtain ⟨L, rfl, hLd, hA, hfp, hok⟩ := HP1.out
      subst hLd
      obtain ⟨e1, e2⟩ := diskAt_same (HD.out.below HB1.out) hA.disk
      have hk : DStp L.d L.bb L.lg lg1 w1 w2 D1 := by rw [e1, e2]; exact HST.out
      have hH := Held.disk hA hk
      refine ⟨⟨{ L with lg := lg1 }, rfl, rfl, hH.at_, fun b hb => ?_, newPgr_ok h1 h2 HREC.out.eff.bd HREC.out.eff.sizes⟩, fun b hb => ?_, ?_⟩
      · rcases hH.fp b hb with hb | hb
        · rcases hfp b hb with hb | hb
          · exact .inl hb
          · exact .inr ⟨hb.1, by omega⟩
        · exact .inr ⟨by omega, hb.2⟩
      · have := HB0.out.size
        rcases hb with hb | hb
        · exact HF0.out b hb
        · omega
      · exact HB0.out.trans (HU2.out.toBelow HB0.out.size (fun x hx hf => by have := HF0.out x hf; omega))
    have hln := len_any HST.out.at_
    have hnn : (D1.blocks.length : Int) = D.n := HREC.out.n
    rw [hnn] at hln
    obtain ⟨n1, n2⟩ := HREC.out.eff.n
    rw [HREC.out.n] at n1 n2
    have hdn : D1.down = false := by rcases HREC.out.way with ⟨_, a, _⟩ | ⟨a, _⟩; exact a; cases a
    have hld := newPgr_load (D := D1) h1 (by rw [HREC.out.n]; exact n1) hdn
    have HI0 : Hid (PIn w0 (w2.alloc (.cells #[.int .i64 D.n, .pointer (some ⟨p, 0, none⟩)] 76)) p d F0 (newPgr D1 room)) := HP2.out.alloc _
    have HSC : Hid ((w2.alloc (.cells #[.int .i64 D.n, .pointer (some ⟨p, 0, none⟩)] 76)).heap[w2.heap.size]? = some (.cells #[.int .i64 D.n, .pointer (some ⟨p, 0, none⟩)] 76 (0, 0))) := heap_alloc_new' _ _
    have hp2 : (w2.alloc (.cells #[.int .i64 D.n, .pointer (some ⟨p, 0, none⟩)] 76)).cell? ⟨w2.heap.size, 1, none⟩ = some (.pointer (some ⟨p, 0, none⟩)) := by rw [cell_new]; rfl
    have HLD := Lib.hid (load_in HI0.out 0 (by decide) (show (0 : Int) < _ by omega) (show (0 : Int) < _ by omega))
    rw [hld] at HLD
    have HU3 : Hid (Upd (dfp d bb lg) w (w2.alloc (.cells #[.int .i64 D.n, .pointer (some ⟨p, 0, none⟩)] 76))) := HU2.out.alloc _
    have HFS : Hid (¬ F0 w2.heap.size ∧ w.heap.size ≤ w2.heap.size) := by
      rw [HF0e.out]
      refine ⟨fun hx => ?_, by omega⟩
      rcases hx with hx | hx
      · have := HD.out.fp_lt hx; omega
      · omega
    have HFG : Hid ((∀ b, F0 b → dfp d bb lg b ∨ w.heap.size ≤ b) ∧ (∀ b, b < w.heap.size → F0 b → dfp d bb lg b)) := by
      rw [HF0e.out]
      exact ⟨fun b hb => hb.imp id (fun h => h.1), fun b hb h => h.elim id (fun h => by omega)⟩
    have HS3 : Hid (w2.heap.size < (w2.alloc (.cells #[.int .i64 D.n, .pointer (some ⟨p, 0, none⟩)] 76)).heap.size) := lt_of HSC.out
    clear HF0e
    clear HI0 HP2 HP1 HST hp hld HU2 hs2 hB1s hnn
    go_wp2_with (go_at_call 49; refine hln.mono ?_; rintro e w' ⟨rfl, rfl⟩)
    generalize (w2.alloc (.cells #[.int .i64 D.n, .pointer (some ⟨p, 0, none⟩)] 76)) = w3 at *
    generalize w2.heap.size = s at *
    clear hln
    refine HLD.out.mono ?_
    rintro e w4 ⟨rfl, hP4, hU4⟩
    have HP4 := Lib.hid hP4
    have HU4 := Lib.hid hU4
    have HSC4 := Lib.hid ((hU4.block s (lt_of HSC.out) HFS.out.1).trans HSC.out)
    have HU5 : Hid (Upd (dfp d bb lg) w w4) := HU3.out.then hU4 (fun x hx hf => HFG.out.2 x hx hf)
    have HNm := Lib.hid (sname_any s D.n w4.drew (by show w4.cell? _ = _; rw [cell_of HSC4.out]; rfl) n1 n2)
    have hx0 : (D1.blk 0).size = 256 := by
      unfold Dsk.blk
      rw [List.getD_eq_getElem?_getD, List.getElem?_eq_getElem (by have := HREC.out.eff.bd; simp; omega)]
      exact HREC.out.eff.sizes _ (List.getElem_mem _)
    have hnz := spName_size D.n
    have hw0 := HB0.out.size
    have hgs := HFS.out.2
    have HW3 := Lib.hid HU4.out.size
    clear hP4 hU4 HLD hp2 HU3 HSC
    have HOF : Hid (∀ (w' : World) (F : Nat → Prop), PIn w0 w' p d F (pgOpen D1 room).2 → w'.heap[s]? = some (.cells #[.int .i64 D.n, .pointer (some ⟨p, 0, none⟩)] 76 (0, 0)) → ¬ F s → (∀ b, F b → dfp d bb lg b ∨ w.heap.size ≤ b) → Upd (dfp d bb lg) w w' →
        OpenR w0 w w' d (dfp d bb lg) D V N (if (pgOpen D1 room).1 = 0 then .pointer (some ⟨s, 0, none⟩) else .pointer none) (pgOpen D1 room).1) := fun w' F a b c e f => openR_of h1 h2 a b c (by omega) hgs HG.out e f HREC.out HNN.out
    have HSL : Hid (¬ ext F0 w3 w4 s ∧ (∀ b, ext F0 w3 w4 b → dfp d bb lg b ∨ w.heap.size ≤ b)) :=
      ⟨fun hx => hx.elim HFS.out.1 (fun h => by have := HS3.out; omega), fun b hb => hb.elim (HFG.out.1 b) (fun h => .inr (by have := HS3.out; omega))⟩
    have HLY : Hid (∀ (w' : World), Below w4.heap.size w4 w' → _) := fun w' hB => lay_in (S := ⟨D1, room, [(0, ⟨D1.blk 0, 0, 1⟩)], [], 1, 1⟩) (s := s) (n := D.n) (HP4.out.made hB) ((hB.block s (lt_of HSC4.out)).trans HSC4.out) HSL.out.1 n1 n2 HREC.out.left (by have := HREC.out.log; have := HNN.out; show D1.log.length < _; omega) (show (1 : Int) < _ by omega)
    by_cases hname : (D1.blk 0).extract 0 8 = spName D.n
    · have HOP : Hid (pgOpen D1 room = (0, ⟨D1, room, [(0, ⟨D1.blk 0, 0, 1⟩)], [], 1, 1⟩)) := by
        show _ = _
        unfold pgOpen
        rw [HREC.out.n, if_pos hname, newPgr_load h1 (by rw [HREC.out.n]; exact n1) hdn]
      have HX := Lib.hid (fun w' => HOF.out w' (ext F0 w3 w4))
      rw [HOP.out] at HX
      have HNA := Lib.hid hname
      clear hname HOF HOP HLY
      generalize D1.blk 0 = x0 at *
      generalize spName D.n = nm at *
      go_upto_region 11 with fail
      have hxe := HNA.out
      go_region_with (go_at_call 51; refine HNm.out.mono ?_; rintro e w5 ⟨rfl, hB4⟩; have HB4 : Hid (Below w4.heap.size w4 w5) := ((Below.refl _ w4).drew).trans hB4; clear hB4)
      all_goals
        go_wp2
        go_ret2
        have h4 := HB4.out.size
        refine ⟨_, 0, rfl, HX.out _ (HP4.out.made HB4.out) ((HB4.out.block s (lt_of HSC4.out)).trans HSC4.out) HSL.out.1 HSL.out.2 (HU5.out.trans (Upd.below HB4.out (fun x hx hle => ?_)))⟩
        have := HU5.out.size; omega
    · have HOP : Hid (pgOpen D1 room = Pgr.lay ⟨D1, room, [(0, ⟨D1.blk 0, 0, 1⟩)], [], 1, 1⟩ D.n) := by
        show _ = _
        unfold pgOpen
        rw [HREC.out.n, if_neg hname, newPgr_load h1 (by rw [HREC.out.n]; exact n1) hdn]
      rw [HOP.out] at HOF
      have hnb := bytes_neq hname
      have hnb2 : (((D1.blk 0).extract 0 8).toList != (spName D.n).toList) = true := by simp [bne, hnb]
      clear hname HOP
      generalize hS : (⟨D1, room, [(0, ⟨D1.blk 0, 0, 1⟩)], [], 1, 1⟩ : Pgr) = S1 at *
      clear hS
      generalize D1.blk 0 = x0 at *
      generalize spName D.n = nm at *
      go_upto_region 11 with fail
      go_region_with (go_at_call 51; refine HNm.out.mono ?_; rintro e w5 ⟨rfl, hB4⟩; have HB4 : Hid (Below w4.heap.size w4 w5) := ((Below.refl _ w4).drew).trans hB4; clear hB4)
      all_goals
        have HL4 := Lib.hid (HLY.out w5 HB4.out)
        have HSC5 := Lib.hid ((HB4.out.block s (lt_of HSC4.out)).trans HSC4.out)
        clear HLY
        go_wp2_with fail
        refine HL4.out.mono ?_
        rintro e w6 ⟨rfl, hP6, hU6⟩
        have h4 := HB4.out.size
        have h6 := hU6.size
        have h5 := HU5.out.size
        have h3 := HS3.out
        have HX := Lib.hid (HOF.out w6 _ hP6 ((hU6.block s (lt_of HSC5.out) HSL.out.1).trans HSC5.out) (fun hx => hx.elim HSL.out.1 (fun h => by have := lt_of HSC5.out; omega)) (fun b hb => hb.elim (HSL.out.2 b) (fun h => .inr (by omega)))
          ((HU5.out.trans (Upd.below HB4.out (fun x hx hle => by omega))).then hU6 (fun x hx hf => hf.elim (HFG.out.2 x hx) (fun h => by omega))))
        clear hP6 hU6 HL4 HOF
        generalize (S1.lay D.n).1 = c at *
        generalize (S1.lay D.n).2 = Sf at *
        by_cases hc : c = 0
        · subst hc
          go_wp2
          go_ret2
          exact ⟨_, 0, rfl, HX.out⟩
        · have hcb : (c != 0) = true := by simpa using hc
          have HY := HX.out
          rw [if_neg hc] at HY
          have HY2 := Lib.hid HY
          clear HY HX
          go_wp2
          go_ret2
          exact ⟨_, c, rfl, HY2.out⟩
  · have ht : D.told = true := by rcases HREC.out.way with ⟨a, _⟩ | ⟨_, a, _⟩; cases a; exact a
    go_wp2
    go_ret2
    refine ⟨_, 17, rfl, HU2.out, bb, lg1, D1, HST.out.at_, fun b hb => ?_, HREC.out.told, HREC.out.n, by have := HREC.out.log; have := HNN.out; omega, .inl ⟨rfl, rfl, ht, .inl HREC.out.eff⟩⟩
    rcases hb with hb | hb | hb
    · exact .inl (.inl hb)
    · exact .inl (.inr (.inl hb))
    · rcases HST.out.log b hb with h | h
      · exact .inl (.inr (.inr h))
      · exact .inr (by omega)
end Go.Proofs.YtdoankamaobkoaaGreatDoor
