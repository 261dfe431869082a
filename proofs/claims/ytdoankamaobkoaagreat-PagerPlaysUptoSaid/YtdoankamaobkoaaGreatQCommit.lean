/- The reference's journal: Done, Commit. -/
import Derived.Test.YtdoankamaobkoaaGreatQWrites
set_option linter.unusedSimpArgs false
set_option linter.unusedVariables false
namespace Go.Proofs.YtdoankamaobkoaaGreat
open Go.RowKit Go.Maps Go.Shelf

set_option maxRecDepth 100000 in
set_option maxHeartbeats 4000000 in
theorem done10_any {w : World} {q : Nat} {bv lgv : Value} {D : Dsk} (h : QD w q bv lgv D) (hleft : D.told = true → 0 ≤ D.left ∧ D.left < 9223372036854775808) (a : Option Addr) (cap : Nat) (l : Pgs) (hlog : D.log.length + l.length < 1000000000000) (hl : PagesIn w a l)
    (hx : ∀ g, a = some ⟨g, 0, none⟩ → ¬ qfp q bv lgv g ∧ g < w.heap.size) (hsz : ∀ p ∈ l, p.2.size ≤ 65536) :
    Calls Tryz.prog 100 #[.pointer (some ⟨q, 0, none⟩), .slice a l.length cap] w fun e w' => e = .returned (.int .i64 (D.writes l).1) ∧ ∃ lgv', QStp q bv lgv lgv' w w' (D.writes l).2 := by
  have HL : Hid (l.length ≤ 1000000000000) := by show _ ≤ _; omega
  have HC : Hid (∀ k W, Upd (qfp q bv lgv) w W → k < l.length → ∃ g, a = some ⟨g, 0, none⟩ ∧ W.cell? ⟨g, k * 2, none⟩ = some (.int .i64 (l.getD k (0, ⟨#[]⟩)).1) ∧ W.cell? ⟨g, k * 2 + 1, none⟩ = some (.string (l.getD k (0, ⟨#[]⟩)).2)) := fun k W hu hk => by
    obtain ⟨g, e, h1, h2⟩ := pagesIn_at hl hk
    obtain ⟨hn, hlt⟩ := hx g e
    have hb := hu.block g hlt hn
    refine ⟨g, e, ?_, ?_⟩
    · unfold World.cell? at h1 ⊢; simp only [hb]; exact h1
    · unfold World.cell? at h2 ⊢; simp only [hb]; exact h2
  have HD : Hid (∀ k, k < l.length → (D.writes (l.take k)).1 = 0 → D.writes (l.take (k + 1)) = (D.writes (l.take k)).2.write (l.getD k (0, ⟨#[]⟩)).1 (l.getD k (0, ⟨#[]⟩)).2) := fun k hk h0 => by
    rw [List.take_succ_eq_append_getElem hk, Dsk.writes_snoc _ _ _ h0]
    rw [List.getD_eq_getElem?_getD, List.getElem?_eq_getElem hk]
    rfl
  have HS : Hid (∀ k, k < l.length → (D.writes (l.take (k + 1))).1 ≠ 0 → D.writes l = D.writes (l.take (k + 1))) := fun k hk h0 => by
    have := Dsk.writes_stop (l.take (k + 1)) (l.drop (k + 1)) D h0
    rwa [List.take_append_drop] at this
  have HF : Hid (∀ k, ((D.writes (l.take k)).2).Fit) := fun k => by
    have h1 := Dsk.writes_log (l.take k) D
    have h3 : (l.take k).length ≤ l.length := by rw [List.length_take]; omega
    exact ⟨Dsk.writes_left _ D hleft, by omega⟩
  have HZ : Hid (∀ k, k < l.length → (l.getD k (0, ⟨#[]⟩)).2.size ≤ 140737488355328) := fun k hk => by have := hsz _ (getD_mem' (0, ⟨#[]⟩) hk); omega
  have HA : Hid (D.writes (l.take l.length) = D.writes l) := by show _ = _; rw [List.take_length]
  obtain ⟨R, HR⟩ : ∃ R, Hid (D.writes l = R) := ⟨_, Lib.hid rfl⟩
  rw [HR.out] at HS HA ⊢
  have H0 : Hid ((D.writes (l.take 0)) = (0, D)) := rfl
  obtain ⟨pf, HPF⟩ : ∃ pf : Nat → Int × Dsk, Hid (∀ k, D.writes (l.take k) = pf k) := ⟨fun k => D.writes (l.take k), fun _ => rfl⟩
  simp only [HPF.out] at HD HS HF HA H0
  obtain ⟨kf, HKF⟩ : ∃ kf : Nat → Int, Hid (∀ k, (l.getD k (0, ⟨#[]⟩)).1 = kf k) := ⟨fun k => (l.getD k (0, ⟨#[]⟩)).1, fun k => rfl⟩
  obtain ⟨tf, HTF⟩ : ∃ tf : Nat → ByteArray, Hid (∀ k, (l.getD k (0, ⟨#[]⟩)).2 = tf k) := ⟨fun k => (l.getD k (0, ⟨#[]⟩)).2, fun k => rfl⟩
  simp only [HKF.out, HTF.out] at HC HD HZ
  have HQ := Lib.hid h
  clear HKF HTF HPF HR hl hx hsz hlog h
  have hN := HL.out
  generalize l.length = N at *
  clear HL
  go_enter Tryz.func100, Tryz.ntmps100
  go_wp2
  go_loopw [9] (fun v wr => ∃ (i : Nat) (lg2 : Value), v = .int .i64 i ∧ i ≤ N ∧ Hid ((pf i).1 = 0) ∧ Hid (QStp q bv lgv lg2 w wr (pf i).2)) (fun v _ => N - (intOf v).toNat)
  case atStart => exact ⟨0, lgv, rfl, by omega, by show _ = _; rw [H0.out], by show QStp _ _ _ _ _ _ _; rw [H0.out]; exact QStp.refl HQ.out⟩
  case round =>
    obtain ⟨i, lg2, rfl, hi, HP0, HST⟩ := hrel
    by_cases hlt : i < N
    · obtain ⟨g, rfl, c0, c1⟩ := HC.out i wr HST.out.upd hlt
      have hz := HZ.out i hlt
      have hw := qwrite_any (HST.out.at_.made ((Below.refl wr.heap.size wr).drew)) (HF.out i) (kf i) (tf i) hz
      rw [← HD.out i hlt HP0.out] at hw
      have HJ : Hid (∀ w2 lg3, QStp q bv lg2 lg3 wr.drew w2 (pf (i + 1)).2 → QStp q bv lgv lg3 w w2 (pf (i + 1)).2) := fun w2 lg3 k => by
        have hh := HST.out
        have hs1 := hh.upd.size
        refine ⟨k.at_, hh.upd.drew.then k.upd fun x hx hf => ?_, fun b hb => ?_⟩
        · rcases hf with hf | hf | hf
          · exact .inl hf
          · exact .inr (.inl hf)
          · rcases hh.log x hf with h | h
            · exact .inr (.inr h)
            · omega
        · have hs2 := k.upd.size
          simp only [World.size_drew] at hs2
          rcases k.log b hb with h | h
          · rcases hh.log b h with h | h
            · exact .inl h
            · exact .inr ⟨h.1, by omega⟩
          · simp only [World.size_drew] at h
            exact .inr ⟨by omega, h.2⟩
      have d0 : wr.drew.cell? ⟨g, i * 2, none⟩ = _ := c0
      have d1 : wr.drew.cell? ⟨g, i * 2 + 1, none⟩ = _ := c1
      have HS1 := Lib.hid (HS.out i hlt)
      clear HC HD HF HZ HA H0 HST HS c0 c1
      generalize kf i = x at *
      generalize tf i = y at *
      obtain ⟨z, HZ⟩ : ∃ z, Hid (pf (i + 1) = z) := ⟨_, Lib.hid rfl⟩
      simp only [HZ.out] at hw HJ HS1
      obtain ⟨r, D2⟩ := z
      simp only at hw HJ HS1
      by_cases hr : r = 0
      · subst hr
        clear HS1
        go_upto_region 4 with fail
        go_region_law (go_simp; go_at_call 128; refine hw.mono ?_; rintro e w2 ⟨rfl, lg3, hst⟩)
        all_goals
          have HST2 := Lib.hid (HJ.out w2 lg3 hst)
          clear hst HJ hw d0 d1
          go_wp2
          go_roundw
          case rel => exact ⟨i + 1, lg3, by go_num, by omega, by show _ = _; rw [HZ.out], by show QStp _ _ _ _ _ _ _; rw [HZ.out]; exact HST2.out⟩
          case measure => simp [intOf]; omega
      · have HR := Lib.hid (HS1.out hr)
        have hb : (r != 0) = true := by simpa using hr
        clear HS1 hr
        go_upto_region 4 with fail
        go_region_law (go_simp; go_at_call 128; refine hw.mono ?_; rintro e w2 ⟨rfl, lg3, hst⟩)
        all_goals
          have HST2 := Lib.hid (HJ.out w2 lg3 hst)
          clear hst HJ hw d0 d1
          go_wp2
          go_ret
          rw [HR.out]
          exact ⟨rfl, lg3, HST2.out⟩
    · obtain rfl : i = N := by omega
      rw [HA.out] at HP0 HST
      obtain ⟨r, D2⟩ := R
      obtain rfl : r = 0 := HP0.out
      clear HC HD HS HF HZ HA H0 HP0
      go_wp2
      go_ret
      exact ⟨rfl, lg2, HST.out⟩
theorem QStp.pre {w w2 w3 : World} {q : Nat} {bv lg lg' : Value} {D' : Dsk} (hB : Below w.heap.size w w2) (k : QStp q bv lg lg' w2 w3 D') : QStp q bv lg lg' w w3 D' :=
  ⟨k.at_, (Upd.below hB (fun x hx hle => by omega)).trans k.upd, fun b hb => (k.log b hb).imp id fun h => ⟨by have := hB.size; omega, h.2⟩⟩
theorem QStp.post {w w2 w3 : World} {q : Nat} {bv lg lg' : Value} {D' : Dsk} (k : QStp q bv lg lg' w w2 D') (hB : Below w2.heap.size w2 w3) : QStp q bv lg lg' w w3 D' :=
  ⟨k.at_.made hB, k.upd.trans (Upd.below hB (fun x hx hle => by have := k.upd.size; omega)), fun b hb => (k.log b hb).imp id fun h => ⟨h.1, by have := hB.size; omega⟩⟩
theorem pagesIn_own {w : World} {base : Nat} {a : Option Addr} {n co q : Nat} {l : Pgs} (h : w.ownsRow base 78 2 (.slice a n co) n (pageCells l)) (hn : l.length = n) (hq : q < w.heap.size) : PagesIn w a l := by
  rcases h.2 with ⟨he, h0⟩ | ⟨g, cap, cur, he, _⟩
  · refine ⟨q, fun hne => ?_, hq, fun i hi => by omega⟩
    have := List.length_pos_iff.2 hne
    omega
  · simp only [Value.slice.injEq] at he
    obtain ⟨rfl, -, rfl⟩ := he
    have hl := (h.lt g rfl).2
    refine ⟨g, fun _ => rfl, hl, fun i hi => ?_⟩
    have hg : l.getD i (0, ⟨#[]⟩) = l[i] := by rw [List.getD_eq_getElem?_getD, List.getElem?_eq_getElem hi]; rfl
    obtain ⟨h1, h2⟩ := pageCells_get l i hi
    rw [hg]
    exact ⟨by rw [h.cellAt _ (by omega)]; exact h1, by rw [h.cellAt _ (by omega)]; exact h2⟩
set_option maxRecDepth 100000 in
set_option maxHeartbeats 2000000 in
theorem qcommit_any {w : World} {q : Nat} {bv lgv : Value} {D : Dsk} (h : QD w q bv lgv D) (h1 : 64 ≤ D.n) (h2 : D.n ≤ 2048) (hleft : D.told = true → 0 ≤ D.left ∧ D.left < 9223372036854775808) (a : Option Addr) (cap : Nat) (l : Pgs) (hlog : D.log.length < 999999000000) (hl : PagesIn w a l) (hs : Srt l) (hok : ∀ p ∈ l, isPage D.n p.1 = true ∧ p.2.size = 256) (hlen : (l.length : Int) ≤ jPages D.n) :
    Calls Tryz.prog 78 #[.pointer (some ⟨q, 0, none⟩), .slice a l.length cap] w fun e w' => e = .returned (.int .i64 (D.commit l).1) ∧ ∃ lgv', QStp q bv lgv lgv' w w' (D.commit l).2 := by
  have hm : jMay D.n l = 0 := by
    unfold jMay
    rw [if_neg (by omega)]
    exact jMayL_zero _ _ _ hok hs (by simp)
  have hpb := jPages_bd D.n
  have hln : l.length ≤ 1024 := by omega
  have hM := may10_any D.n a cap l w hl hs hok hlen h1 h2
  have hn : D.n = (D.blocks.length : Int) := rfl
  obtain ⟨ao, co, rfl⟩ := ownsRow_slice h.blk
  have HB0 : Hid (∀ W, Below w.heap.size w W → W.cell? ⟨q, 0, none⟩ = some (.slice ao D.blocks.length co)) := fun W hB => (hB.cell (p := ⟨q, 0, none⟩) (lt_of h.q)).trans (by rw [cell_of h.q]; rfl)
  have c0 : w.cell? ⟨q, 0, none⟩ = some (.slice ao D.blocks.length co) := HB0.out w (Below.refl _ _)
  have hb64 : D.blocks.length ≤ 2048 := by omega
  by_cases hle : l = []
  · have e : D.commit l = (0, D) := by unfold Dsk.commit; rw [if_neg (by omega), if_pos hle]
    rw [e]
    subst hle
    have HDN : Hid (∀ W, Below w.heap.size w W → Calls Tryz.prog 100 #[.pointer (some ⟨q, 0, none⟩), .slice none 0 0] W fun e w' => e = .returned (.int .i64 0) ∧ ∃ lgv', QStp q (.slice ao D.blocks.length co) lgv lgv' w w' D) := fun W hB => by
      have hD := h.made hB
      refine (done10_any hD hleft none 0 [] (by simp; omega) ⟨q, fun hc => absurd rfl hc, lt_of hD.q, fun i hi => by simp at hi⟩ (fun g hg => by cases hg) (by simp)).mono ?_
      rintro e w' ⟨rfl, lg', hst⟩
      exact ⟨rfl, lg', hst.pre hB⟩
    clear e
    rw [hn] at hM
    rw [show ([] : Pgs).length = 0 from rfl] at hM ⊢
    clear h hleft hlog hl hs hok hlen hm h1 h2 hpb
    generalize D.blocks.length = M at *
    go_enter Tryz.func78, Tryz.ntmps78
    go_wp2_with fail
    refine hM.mono ?_
    rintro e w1 ⟨rfl, hB1⟩
    have c1 := HB0.out w1 hB1
    go_wp2_with fail
    refine (writes10_nil _ _ _ _).mono ?_
    rintro e w2 ⟨rfl, rfl⟩
    go_wp2_with fail
    refine (HDN.out _ hB1).mono ?_
    rintro e w3 ⟨rfl, hst⟩
    have HST := Lib.hid hst
    clear hst HDN
    go_wp2
    go_ret
    exact ⟨rfl, HST.out⟩
  · have e : D.commit l = D.writes (allL D.n l) := by unfold Dsk.commit; rw [if_neg (by omega), if_neg hle]
    rw [e]
    have hW : Hid (∀ W, Below w.heap.size w W → _) := fun W hB => writes10_any D.n a cap l W (by
      obtain ⟨g, ha, hg, hc⟩ := hl
      exact ⟨g, ha, Nat.lt_of_lt_of_le hg hB.size, fun i hi => ⟨(hB.cell (p := ⟨g, i * 2, none⟩) hg).trans (hc i hi).1, (hB.cell (p := ⟨g, i * 2 + 1, none⟩) hg).trans (hc i hi).2⟩⟩) hle (by omega) (fun p hp => by have := isPage_lt (hok p hp).1; omega) (fun p hp => by have := (hok p hp).2; omega) h1 h2
    have HDN : Hid (∀ W ao' co', Below w.heap.size w W → W.ownsRow w.heap.size 78 2 (.slice ao' (allL D.n l).length co') (allL D.n l).length (pageCells (allL D.n l)) → Calls Tryz.prog 100 #[.pointer (some ⟨q, 0, none⟩), .slice ao' (allL D.n l).length co'] W fun e w' => e = .returned (.int .i64 (D.writes (allL D.n l)).1) ∧ ∃ lgv', QStp q (.slice ao D.blocks.length co) lgv lgv' w w' (D.writes (allL D.n l)).2) := fun W ao' co' hB ho => by
      have hD := h.made hB
      have hal := allL_length D.n l
      refine (done10_any hD hleft ao' co' (allL D.n l) (by omega) (pagesIn_own ho rfl (lt_of hD.q)) (fun g hg => ?_) (fun p hp => by have := allL_sizes D.n (fun q hq => (hok q hq).2) p hp; omega)).mono ?_
      · subst hg
        have := ho.lt g rfl
        exact ⟨fun hf => by have := h.fp_lt hf; omega, this.2⟩
      · rintro e w' ⟨rfl, lg', hst⟩
        exact ⟨rfl, lg', hst.pre hB⟩
    obtain ⟨X, hX⟩ : ∃ X, allL D.n l = X := ⟨_, rfl⟩
    rw [hX] at HDN hW ⊢
    obtain ⟨R, hR⟩ : ∃ R, D.writes X = R := ⟨_, rfl⟩
    rw [hR] at HDN ⊢
    rw [hn] at hM hW
    clear h hleft hlog hl hs hok hlen hm h1 h2 hpb e hX hR
    generalize D.blocks.length = M at *
    generalize l.length = N at *
    obtain ⟨r, D2⟩ := R
    go_enter Tryz.func78, Tryz.ntmps78
    go_wp2_with fail
    refine hM.mono ?_
    rintro e w1 ⟨rfl, hB1⟩
    have c1 := HB0.out w1 hB1
    go_wp2_with fail
    refine (hW.out w1 hB1).mono ?_
    rintro e w2 ⟨ao', co', rfl, ho, hB2⟩
    have HO := Lib.hid (ownsRow_base ho hB1.size)
    have HB2 := Lib.hid (hB1.trans (hB2.mono hB1.size))
    clear ho hB2 hW hM c1 c0
    go_wp2_with fail
    refine (HDN.out _ _ _ HB2.out HO.out).mono ?_
    rintro e w3 ⟨rfl, hst⟩
    have HST := Lib.hid hst
    clear hst HDN
    go_wp2
    go_ret
    exact ⟨rfl, HST.out⟩
end Go.Proofs.YtdoankamaobkoaaGreat
