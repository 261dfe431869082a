/- The reference's pager: Commit, Held, Dirty. -/
import Derived.Test.YtdoankamaobkoaaGreatQPin
set_option linter.unusedSimpArgs false
set_option linter.unusedVariables false
namespace Go.Proofs.YtdoankamaobkoaaGreat
open Go.RowKit Go.Maps Go.Shelf

section
variable {w : World} {r q : Nat} {S : Pgr} {L : List (Int × Pg)} {G : Nat → Prop}
theorem RMem.undo {q : Nat} {lv cv bv lgv : Value} (h : RMem w r q lv cv bv lgv S L) : RMem (w.setCell ⟨r, 3, none⟩ (.slice none 0 0)) r q lv (.slice none 0 0) bv lgv { S with changed := [] } L ∧ ∀ b, rfp r q lv (.slice none 0 0) bv lgv b → rfp r q lv cv bv lgv b ∧ cv.ownBlock ≠ some b := by
  have hset := heap_setCell_same h.r 3 (.slice none 0 0)
  obtain ⟨n1, n2, n3, n4, n5⟩ := h.rne
  refine ⟨⟨by rw [hset]; rfl, ?_, ownsRow_setCell_other h.list (by exact n2) _, World.ownsRow_nil _ _ _ _, ownsRow_setCell_other h.blk (by exact n4) _, ownsRow_setCell_other h.log (by exact n5) _, fun b hb => by simp [Value.ownBlock] at hb⟩, fun b hb => ?_⟩
  · rw [Below.heap_setCell _ _ _ _ (by exact n1)]
    exact h.q
  · have hq : cv.ownBlock ≠ some q := fun e => by
      obtain ⟨cs, hcs⟩ := ownsRow_type h.chg e
      rw [h.q] at hcs; simp at hcs
    rcases hb with rfl | rfl | hb | hb | hb | hb
    · exact ⟨.inl rfl, n3⟩
    · exact ⟨.inr (.inl rfl), hq⟩
    · exact ⟨.inr (.inr (.inl hb)), own_ne h.list h.chg (by decide) hb⟩
    · simp [Value.ownBlock] at hb
    · exact ⟨.inr (.inr (.inr (.inr (.inl hb)))), own_ne h.blk h.chg (by decide) hb⟩
    · exact ⟨.inr (.inr (.inr (.inr (.inr hb)))), fun e => h.ne b e hb⟩
theorem RAt.undo (h : RAt w r q G S L) : RStp w (w.setCell ⟨r, 3, none⟩ (.slice none 0 0)) r q G { S with changed := [] } L := by
  obtain ⟨lv, cv, bv, lgv, hM, hf⟩ := h
  obtain ⟨h1, h2⟩ := hM.undo
  exact ⟨⟨lv, _, bv, lgv, h1, fun b hb => .inl (hf b (h2 b hb).1)⟩, (Upd.refl _ w).setCell _ (fun _ => hf r (.inl rfl)) _⟩
theorem Pgr.Ok.dleft (hleft : S.disk.told = true → 0 ≤ S.disk.left ∧ S.disk.left < 9223372036854775808) : True := trivial
set_option maxRecDepth 100000 in
set_option maxHeartbeats 8000000 in
theorem qcomm_any (h : RAt w r q G S L) (ho : Ord S L) (hok : S.Ok) (hleft : S.disk.told = true → 0 ≤ S.disk.left ∧ S.disk.left < 9223372036854775808) (hlog : S.disk.log.length < 999999000000) :
    Calls Tryz.prog 49 #[.pointer (some ⟨r, 0, none⟩)] w fun e w' => e = .returned (.int .i64 S.commit.1) ∧ ∃ L', Ord S.commit.2 L' ∧ RStp w w' r q G S.commit.2 L' := by
  have hl := ho.len_bd hok
  have hcl := hok.chg_len
  have hn : S.disk.n = (S.disk.blocks.length : Int) := rfl
  have hb64 := hok.blocks
  have hjl : (S.changed.length : Int) ≤ jPages S.disk.n := (jMay_ok (changed_may hok)).1
  have hst0 : RStp w w.drew r q G S L := (RStp.refl h).made ((Below.refl w.heap.size w).drew)
  obtain ⟨lv, cv, bv, lgv, hM, hG⟩ := h
  have hMd : RMem w.drew r q lv cv bv lgv S L := hM.keep fun b hb => rfl
  have hs0 := hM.sees
  have c0 : w.drew.cell? ⟨r, 0, none⟩ = _ := hs0.c0
  have c3 : w.drew.cell? ⟨r, 3, none⟩ = _ := hs0.c3
  obtain ⟨ca, cc, rfl⟩ := ownsRow_slice hM.chg
  have hcm := qcommit_any hMd.qd (by omega) (by omega) hleft ca cc S.changed hlog (pagesIn_own hMd.chg rfl (lt_of hMd.q)) hok.srtc hok.changed hjl
  have hgood := S.disk.commit_good S.changed
  by_cases h0 : (S.disk.commit S.changed).1 = 0
  · have e : S.commit = (0, (S.emptied (S.disk.commit S.changed).2).holds S.changed) := by unfold Pgr.commit; rw [if_neg (by omega)]
    rw [e]
    have hokE := emptied_ok hok hgood
    have hapart : ∀ p ∈ S.changed, get p.1 S.held = none := fun p hp => by
      cases hgt : get p.1 S.held with
      | none => rfl
      | some x =>
        have := hok.apart _ (get_mem hgt)
        simp only at this
        rw [mem_get hok.srtc (show (p.1, p.2) ∈ S.changed from hp)] at this
        cases this
    have hdn : (S.disk.commit S.changed).2.n = S.disk.n := by unfold Dsk.n; rw [hgood.len]
    have HOK : Hid (∀ k, ((S.emptied (S.disk.commit S.changed).2).holds (S.changed.take k)).Ok ∧ (∀ (hk : k < S.changed.length), get S.changed[k].1 ((S.emptied (S.disk.commit S.changed).2).holds (S.changed.take k)).held = none)) := fun k => by
      have hh := holds_ok (S.changed.take k) (S.emptied (S.disk.commit S.changed).2) hokE (hok.srtc.sublist (List.take_sublist ..)) rfl (fun p hp => by
        have hp' := List.mem_of_mem_take hp
        exact ⟨hapart p hp', by show isPage (S.disk.commit S.changed).2.n p.1 = true; rw [hdn]; exact (hok.changed p hp').1, (hok.changed p hp').2⟩)
      refine ⟨hh.1, fun hk => hh.2.2.2.2.2.2 _ (fun p hp e => ?_) (hapart _ (List.getElem_mem hk))⟩
      obtain ⟨m, hm, he⟩ := List.getElem_of_mem hp
      rw [List.getElem_take] at he
      rw [List.length_take] at hm
      have := (List.pairwise_iff_getElem.1 hok.srtc) m k (by omega) hk (by omega)
      rw [he] at this
      omega
    have HSN : Hid (∀ k (hk : k < S.changed.length), (S.emptied (S.disk.commit S.changed).2).holds (S.changed.take (k + 1)) = ((S.emptied (S.disk.commit S.changed).2).holds (S.changed.take k)).hold S.changed[k].1 S.changed[k].2) := fun k hk => by
      rw [List.take_succ_eq_append_getElem hk, holds_snoc]
    have HALL : Hid ((S.emptied (S.disk.commit S.changed).2).holds (S.changed.take S.changed.length) = (S.emptied (S.disk.commit S.changed).2).holds S.changed) := by show _ = _; rw [List.take_length]
    obtain ⟨N, HN⟩ : ∃ N, Hid (S.changed.length = N) := ⟨_, Lib.hid rfl⟩
    have HW : Hid (∀ w1 lg1, QStp q bv lgv lg1 w.drew w1 (S.disk.commit S.changed).2 → w1.cell? ⟨r, 3, none⟩ = some (.slice ca N cc) ∧ w1.frozen? ⟨r, 3, none⟩ = false ∧ ∃ G2 : Nat → Prop, RAt (w1.setCell ⟨r, 3, none⟩ (.slice none 0 0)) r q G2 (S.emptied (S.disk.commit S.changed).2) L ∧
        (∀ w2 S2 L2, RStp (w1.setCell ⟨r, 3, none⟩ (.slice none 0 0)) w2 r q G2 S2 L2 → RStp w w2 r q G S2 L2) ∧
        (∀ w2 S2 L2, RStp (w1.setCell ⟨r, 3, none⟩ (.slice none 0 0)) w2 r q G2 S2 L2 → ∀ k (hk : k < S.changed.length), ∃ g, ca = some ⟨g, 0, none⟩ ∧ w2.drew.cell? ⟨g, k * 2, none⟩ = some (.int .i64 S.changed[k].1) ∧ w2.drew.cell? ⟨g, k * 2 + 1, none⟩ = some (.string S.changed[k].2))) := fun w1 lg1 hq => by
      have hM1 := hMd.disk hq
      have hst1 := hMd.disk_stp (G := G) hG hq
      obtain ⟨hM2, hf2⟩ := hM1.undo
      have hfp : ∀ b, rfp r q lv (.slice ca S.changed.length cc) bv lg1 b → ext G w.drew w1 b := fun b hb => by
        rcases hb with hb | hb | hb | hb | hb | hb
        · exact .inl (hG b (.inl hb))
        · exact .inl (hG b (.inr (.inl hb)))
        · exact .inl (hG b (.inr (.inr (.inl hb))))
        · exact .inl (hG b (.inr (.inr (.inr (.inl hb)))))
        · exact .inl (hG b (.inr (.inr (.inr (.inr (.inl hb))))))
        · rcases hq.log b hb with h | h
          · exact .inl (hG b (.inr (.inr (.inr (.inr (.inr h))))))
          · exact .inr h
      have hstE : RStp w (w1.setCell ⟨r, 3, none⟩ (.slice none 0 0)) r q G (S.emptied (S.disk.commit S.changed).2) L := by
        refine ⟨⟨lv, _, bv, lg1, hM2, fun b hb => ?_⟩, (hst0.upd.trans hst1.upd).setCell _ (fun _ => hG r (.inl rfl)) _⟩
        have := hfp b (hf2 b hb).1
        simpa [ext] using this
      refine ⟨by rw [← HN.out]; exact hM1.sees.c3, hM1.sees.f3, fun b => ext G w.drew w1 b ∧ (Value.slice ca S.changed.length cc).ownBlock ≠ some b, ⟨lv, _, bv, lg1, hM2, fun b hb => ⟨hfp b (hf2 b hb).1, (hf2 b hb).2⟩⟩, fun w2 S2 L2 hst => ?_, fun w2 S2 L2 hst k hk => ?_⟩
      · refine hstE.trans (hst.monoG fun b hb => ?_)
        have := hb.1
        simpa [ext] using this
      · obtain ⟨g, cap, he, t0, t1⟩ := hM1.chgAt hk
        simp at he
        obtain ⟨rfl, rfl⟩ := he
        have hgo : (Value.slice (some ⟨g, 0, none⟩) S.changed.length cc).ownBlock = some g := by simp [Value.ownBlock]
        have hgl := (hM1.chg.lt g hgo).2
        have hgr : g ≠ r := fun e => hM1.rne.2.2.1 (by rw [hgo, e])
        have hb2 : w2.heap[g]? = w1.heap[g]? := (hst.upd.block g (by simpa using hgl) (fun hc => hc.2 hgo)).trans (Below.heap_setCell _ _ _ _ (by exact hgr))
        refine ⟨g, rfl, (World.cell?_of_block (w := w1) (a := ⟨g, k * 2, none⟩) hb2).trans t0, (World.cell?_of_block (w := w1) (a := ⟨g, k * 2 + 1, none⟩) hb2).trans t1⟩
    have HO0 : Hid (Ord ((S.emptied (S.disk.commit S.changed).2).holds (S.changed.take 0)) L) := ⟨ho.perm, ho.srt⟩
    rw [h0] at hcm
    rw [HN.out] at hcm c3 HALL hcl
    have hd0 : ∀ o, (S.emptied (S.disk.commit S.changed).2).holds (S.changed.take 0) = S.emptied (S.disk.commit S.changed).2 := fun _ : Unit => rfl
    have hroom : ∀ k, ((S.emptied (S.disk.commit S.changed).2).holds (S.changed.take k)).room = S.room := fun k => by
      have hh := holds_ok (S.changed.take k) (S.emptied (S.disk.commit S.changed).2) hokE (hok.srtc.sublist (List.take_sublist ..)) rfl (fun p hp => by
        have hp' := List.mem_of_mem_take hp
        exact ⟨hapart p hp', by show isPage (S.disk.commit S.changed).2.n p.1 = true; rw [hdn]; exact (hok.changed p hp').1, (hok.changed p hp').2⟩)
      exact hh.2.2.2.1
    clear hM hMd hG hst0 hs0 hok ho hleft hlog e hokE hapart hdn hjl hgood h0 hl hb64 hroom
    have H00 : Hid ((S.emptied (S.disk.commit S.changed).2).holds (S.changed.take 0) = S.emptied (S.disk.commit S.changed).2) := rfl
    generalize S.emptied (S.disk.commit S.changed).2 = SE at *
    generalize (S.disk.commit S.changed).2 = D2 at *
    generalize S.changed = l at *
    obtain ⟨sf, HSF⟩ : ∃ sf : Nat → Pgr, Hid (∀ k, SE.holds (l.take k) = sf k) := ⟨fun k => SE.holds (l.take k), fun _ => rfl⟩
    simp only [HSF.out] at HOK HSN HALL HO0 H00
    have HF := Lib.hid HALL.out.symm
    generalize SE.holds l = SF at *
    clear HSF hd0
    go_enter Tryz.func49, Tryz.ntmps49
    go_upto_region 1 with fail
    go_region_law (go_simp; go_at_call 78; refine hcm.mono ?_; rintro e w1 ⟨rfl, lg1, hq⟩)
    all_goals
      obtain ⟨d3, g3, G2, hat2, hfin, hcells⟩ := HW.out w1 lg1 hq
      have HFIN := Lib.hid hfin
      have HCE := Lib.hid hcells
      have HAT2 := Lib.hid hat2
      clear hq HW hfin hcells hat2 hcm c0 c3
      go_wp2
      generalize hw2 : w1.setCell ⟨r, 3, none⟩ (.slice none 0 0) = w2 at *
      go_loopw [27] (fun v wr => ∃ (k : Nat) (L2 : List (Int × Pg)), v = .int .i64 k ∧ k ≤ N ∧ Hid (Ord (sf k) L2) ∧ Hid (RStp w2 wr r q G2 (sf k) L2)) (fun v _ => N - (intOf v).toNat)
      case atStart => exact ⟨0, L, rfl, by omega, HO0, by show RStp _ _ _ _ _ _ _; rw [H00.out]; exact RStp.refl HAT2.out⟩
      case round =>
        obtain ⟨k, L2, rfl, hk, HO, HST⟩ := hrel
        clear H00 HAT2 HO0
        by_cases hlt : k < N
        · have hlt' : k < l.length := by rw [HN.out]; exact hlt
          obtain ⟨g, rfl, t0, t1⟩ := HCE.out wr _ _ HST.out k hlt'
          obtain ⟨hokk, hgk⟩ := HOK.out k
          have hstd := HST.out.made ((Below.refl wr.heap.size wr).drew)
          have hho := qhold_any hstd.at_ l[k].1 l[k].2 (by have := HO.out.len_bd hokk; omega)
          have HO2 := Lib.hid (HO.out.hold hokk (hgk hlt') l[k].2)
          rw [← HSN.out k hlt'] at HO2
          have HST2 : Hid (∀ w3, RStp wr.drew w3 r q (ext G2 w2 wr.drew) (sf k) (rHold (sf k) L2 l[k].1 l[k].2) → RStp w2 w3 r q G2 (sf (k + 1)) (rHold (sf k) L2 l[k].1 l[k].2)) := fun w3 hst => by
            obtain ⟨a1, a2, a3, a4⟩ := hold_as (sf k) l[k].1 l[k].2
            rw [HSN.out k hlt']
            exact (hstd.trans hst).as a1 a2 a3 a4
          generalize rHold (sf k) L2 l[k].1 l[k].2 = L3 at *
          clear hstd HO HST hokk hgk HOK HSN HALL HF HCE HFIN
          generalize l[k].1 = kk at *
          generalize l[k].2 = tt at *
          go_upto_region 9 with fail
          go_region_law (go_simp; go_at_call 75; refine hho.mono ?_; rintro e w3 ⟨rfl, hst3⟩)
          all_goals
            have HST3 := Lib.hid (HST2.out _ hst3)
            clear hst3 HST2 hho t0 t1
            go_wp2
            go_roundw
            case rel => exact ⟨k + 1, L3, by go_num, by omega, HO2, HST3⟩
            case measure => simp [intOf]; omega
        · obtain rfl : k = N := by omega
          rw [HALL.out] at HO HST
          have HFN := Lib.hid (HFIN.out _ _ _ HST.out)
          clear HOK HSN HALL HF HCE HFIN HST
          go_wp2
          go_ret
          exact ⟨rfl, L2, HO.out, HFN.out⟩
  · have e : S.commit = ((S.disk.commit S.changed).1, { S with disk := (S.disk.commit S.changed).2 }) := by unfold Pgr.commit; rw [if_pos h0]
    rw [e]
    have hbe : ((S.disk.commit S.changed).1 != 0) = true := by simpa using h0
    have HO : Hid (Ord { S with disk := (S.disk.commit S.changed).2 } L) := ⟨ho.perm, ho.srt⟩
    have HW : Hid (∀ w1 lg1, QStp q bv lgv lg1 w.drew w1 (S.disk.commit S.changed).2 → RStp w w1 r q G { S with disk := (S.disk.commit S.changed).2 } L) := fun w1 lg1 hq => by
      have hst1 := hMd.disk_stp (G := G) hG hq
      refine ⟨hst1.at_.mono fun b hb => by simpa [ext] using hb, hst0.upd.trans hst1.upd⟩
    clear hM hMd hG hst0 hs0 hok ho hleft hlog e hjl hgood h0 hl hb64
    generalize (S.disk.commit S.changed).1 = er at *
    generalize (S.disk.commit S.changed).2 = D2 at *
    go_enter Tryz.func49, Tryz.ntmps49
    go_upto_region 1 with fail
    go_region_law (go_simp; go_at_call 78; refine hcm.mono ?_; rintro e w1 ⟨rfl, lg1, hq⟩)
    all_goals
      have HFIN := Lib.hid (HW.out w1 lg1 hq)
      clear hq HW hcm c0 c3
      go_wp2
      go_ret
      exact ⟨rfl, L, HO.out, HFIN.out⟩
end
end Go.Proofs.YtdoankamaobkoaaGreat
