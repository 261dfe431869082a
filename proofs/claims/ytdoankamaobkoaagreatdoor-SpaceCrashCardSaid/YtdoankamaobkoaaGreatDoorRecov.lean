/- journal.Recover, whatever stands; space.Open where the power may fail. -/
import Derived.Test.YtdoankamaobkoaaGreatDoorTold
set_option linter.unusedSimpArgs false
set_option linter.unusedVariables false
namespace Go.Proofs.YtdoankamaobkoaaGreatDoor
open Go.RowKit Go.Maps Go.Shelf

/-- what Recover makes of a disk -/
structure RecD (D D' : Dsk) (V : Int → ByteArray) (c : Int) : Prop where
  told : D'.told = D.told
  n : D'.n = D.n
  log : (D'.log.length : Int) ≤ D.log.length + 2000
  left : D'.told = true → 0 ≤ D'.left ∧ D'.left < 9223372036854775808
  eff : Eff D' V
  way : (c = 0 ∧ D'.down = false ∧ CleanB D'.n D'.blk V) ∨ (c = 17 ∧ D.told = true ∧ D'.down = true)
set_option maxHeartbeats 2000000 in
set_option maxRecDepth 100000 in
theorem recover_any {w : World} {d bb : Nat} {lg : Value} {D : Dsk} {V : Int → ByteArray} (h : DiskAt w d bb lg D) (he : Eff D V) (hd : D.down = false) (hleft : D.told = true → 0 ≤ D.left ∧ D.left < 9223372036854775808) (hlog : D.log.length < 999999000000) :
    Calls Tryz.prog 48 #[.pointer (some ⟨d, 0, none⟩)] w fun e w' => ∃ (k c : Int) (lg' : Value) (D' : Dsk), e = .returned (.tuple #[.int .i64 k, .int .i64 c]) ∧ DStp d bb lg lg' w w' D' ∧ RecD D D' V c := by
  obtain ⟨n1, n2⟩ := he.n
  have hst0 : DStp d bb lg lg w w D := ⟨h, Upd.refl _ _, fun b hb => .inl hb⟩
  rcases he.eff with hc | ⟨l, hp, hv⟩
  · have hr1 : D.read 1 = (fill ⟨#[]⟩, 0) := by
      unfold Dsk.read
      have : D.may 1 = 0 := by unfold Dsk.may; rw [if_neg (by simp [hd]), if_neg (by omega)]
      rw [if_pos this, ← hc.1]; rfl
    refine (recover_none h hr1).mono ?_
    rintro e w' ⟨rfl, rfl⟩
    exact ⟨0, 0, lg, D, rfl, hst0, ⟨rfl, rfl, by omega, hleft, he, .inl ⟨rfl, hd, hc⟩⟩⟩
  · obtain ⟨m1, m2⟩ := jMay_ok hp.may
    obtain ⟨q1, q2, q3, q4⟩ := home_cut he hd hp hv
    have hlen : l.length ≤ 1024 := by have := jPages_bd D.n; omega
    have hhl : (homeL l).length = l.length + 1 := by simp [homeL]
    have hwl := Dsk.writes_log (homeL l) D
    have HREC : Hid (RecD D (D.writes (homeL l)).2 V (D.writes (homeL l)).1) :=
      ⟨q2, q3, by omega, Dsk.writes_left _ D hleft, q1, by rw [q3]; exact q4⟩
    have HC : (D.writes (homeL l)).1 = 0 ∨ (D.writes (homeL l)).1 ≠ 0 := Decidable.em _
    have HT := Lib.hid (told_pend h hd n1 n2 hp)
    have HRD := Lib.hid (read_blk h hd (i := 1) (by omega) (by omega) hp.top)
    have HW : Hid (∀ (w1 : World) (g cap : Nat) (og : Obj), Below w.heap.size w w1 → w1.heap[g]? = some og → RowP og l → w.heap.size ≤ g →
        Calls Tryz.prog 82 #[.pointer (some ⟨d, 0, none⟩), .func (.func 110) #[] #[.pointer (some ⟨w1.heap.size, 0, none⟩)]]
          (w1.alloc (.cells #[.slice (some ⟨g, 0, none⟩) l.length cap] 81)) fun e w' => e = .returned (.int .i64 (D.writes (homeL l)).1) ∧ ∃ lg', DStp d bb lg lg' w w' (D.writes (homeL l)).2) := by
      intro w1 g cap og hB1 hg hog hgl
      have hs1 := hB1.size
      have hgd : ¬ dfp d bb lg g := fun hx => by have := h.fp_lt hx; omega
      have hS1 : Safe d bb (fun _ => False) w1 [(g, og)] := ⟨lg, D, h.below hB1, fun p hp => by simp at hp; subst hp; exact ⟨hg, hgd, fun x => x⟩⟩
      have hS2 : Safe d bb (fun _ => False) (w1.alloc (.cells #[.slice (some ⟨g, 0, none⟩) l.length cap] 81)) [(w1.heap.size, .cells #[.slice (some ⟨g, 0, none⟩) l.length cap] 81), (g, og)] :=
        hS1.add ((Below.refl _ w1).alloc (Nat.le_refl _) _) (fun b hb => hb.elim) (Nat.le_refl _) (heap_alloc_new' w1 _)
      have hbel : Below w1.heap.size w1 (w1.alloc (.cells #[.slice (some ⟨g, 0, none⟩) l.length cap] 81)) := (Below.refl _ w1).alloc (Nat.le_refl _) _
      have hD1 := (hst0.made hB1).made hbel
      generalize hw2 : (w1.alloc (.cells #[.slice (some ⟨g, 0, none⟩) l.length cap] 81)) = w2 at *
      refine (jwrite_any (fn := Tryz.f110) hD1.at_ hleft (homeL l) (by omega) (fun q hq => ?_) (enters_of Tryz.func110 (by kernel_rfl) rfl) ?_).mono ?_
      · rcases List.mem_append.1 (show q ∈ l ++ [((1 : Int), fill ⟨#[]⟩)] from hq) with hq | hq
        · have := (m2 q hq).2; omega
        · simp at hq; subst hq; have : (fill ⟨#[]⟩).size = 256 := padB_size (by decide); show (fill ⟨#[]⟩).size ≤ _; omega
      · intro w' hB' hsz'
        refine home1_yields (X := fun b => b = w2.heap.size + 1) (g := g) (cap := cap) (og := og) rfl hog (by omega) ?_
        have h4 := (hS2.kd (KD.below hB')).also (Y := fun b => b = w2.heap.size + 1) (by
          intro p hp e
          have hb := lt_of (hS2.obj (b := p.1) (o := p.2) hp)
          omega)
        obtain ⟨lgx, Sx, hDx, hpx⟩ := h4
        exact ⟨lgx, Sx, hDx, fun p hp => ⟨(hpx p hp).1, (hpx p hp).2.1, fun hx => (hpx p hp).2.2 (.inl hx)⟩⟩
      · rintro e w' ⟨he, lg', hst⟩
        exact ⟨he, lg', hD1.then hst⟩
    have hpos : 1 ≤ l.length := List.length_pos_iff.2 hp.ne
    clear h he hd hleft hlog hst0 hp hv m1 m2 q1 q2 q3 q4 hhl hwl n1 n2
    generalize (D.writes (homeL l)).1 = c at *
    generalize (D.writes (homeL l)).2 = D' at *
    generalize jTop l = tp at *
    obtain ⟨m, HM⟩ : ∃ m, Hid (l.length = m) := ⟨_, Lib.hid rfl⟩
    rw [HM.out] at HT HW hpos hlen
    go_enter Tryz.func48, Tryz.ntmps48
    go_wp2_with fail
    refine HRD.out.mono ?_
    rintro e w' ⟨rfl, rfl⟩
    clear HRD
    go_wp2_with fail
    refine HT.out.mono ?_
    rintro e w1 ⟨g, cap, og, rfl, hg, hog, hgl, hB1⟩
    have HW1 := Lib.hid (HW.out w1 g cap og hB1 hg hog hgl)
    clear hg hog hgl hB1 HT HW
    have hmz : ((m : Int) == 0) = false := by simp; omega
    go_wp2_with (go_at_call 83; refine (home_any _ _ _ _).mono ?_; rintro e w' ⟨rfl, rfl⟩)
    refine HW1.out.mono ?_
    rintro e w3 ⟨rfl, lg', hst⟩
    have HST := Lib.hid hst
    clear hst HW1
    rcases HC with hc | hc
    · subst hc
      go_wp2
      go_ret2
      exact ⟨_, 0, lg', D', rfl, HST.out, HREC.out⟩
    · have hcb : (c != 0) = true := by simpa using hc
      go_wp2
      go_ret2
      exact ⟨0, c, lg', D', rfl, HST.out, HREC.out⟩

set_option maxHeartbeats 1000000 in
set_option maxRecDepth 100000 in
theorem lay_in {w0 w : World} {s p d : Nat} {F : Nat → Prop} {S : Pgr} {n : Int} (h : PIn w0 w p d F S) (hc : w.heap[s]? = some (.cells #[.int .i64 n, .pointer (some ⟨p, 0, none⟩)] 76 (0, 0))) (hF : ¬ F s) (n1 : 64 ≤ n) (n2 : n ≤ 2048)
    (hleft : S.disk.told = true → 0 ≤ S.disk.left ∧ S.disk.left < 9223372036854775808) (hlog : S.disk.log.length < 999999000000) (hck : S.clock < 4611686018427300000) :
    Calls Tryz.prog 52 #[.pointer (some ⟨s, 0, none⟩)] w fun e w' => e = .returned (.int .i64 (S.lay n).1) ∧ PIn w0 w' p d (ext F w w') (S.lay n).2 ∧ Upd F w w' := by
  have HNm := Lib.hid (sname_any s n w (by rw [cell_of hc]; rfl) n1 n2)
  have hns := spName_size n
  have hFb := jFirst_bd n
  have hZ1 : (padB (spName n) 256).size = 256 := padB_size (by omega)
  have hZ2 : (padB ⟨#[1]⟩ 256).size = 256 := padB_size (by decide)
  have HPd1 : Hid (∀ w', Calls Tryz.prog 36 #[.string (spName n), .int .i64 (256 : Nat)] w' fun e w'' => e = .returned (.tuple #[.string (padB (spName n) 256), .int .i64 0]) ∧ Below w'.heap.size w' w'') := fun w' => pad_any _ 256 w' (by omega) (by omega)
  have HPd2 : Hid (∀ w', Calls Tryz.prog 36 #[.string ⟨#[1]⟩, .int .i64 (256 : Nat)] w' fun e w'' => e = .returned (.tuple #[.string (padB ⟨#[1]⟩ 256), .int .i64 0]) ∧ Below w'.heap.size w' w'') := fun w' => pad_any _ 256 w' (by decide) (by omega)
  have HLD : Hid (S.lay n = ((S.store 0 (padB (spName n) 256)).2.store (jFirst n) (padB ⟨#[1]⟩ 256)).2.commit) := rfl
  have HR1 := Lib.hid (store_rest S 0 (padB (spName n) 256))
  have HR2 := Lib.hid (store_rest (S.store 0 (padB (spName n) 256)).2 (jFirst n) (padB ⟨#[1]⟩ 256))
  rw [HLD.out]
  have HP := Lib.hid h
  have HC := Lib.hid hc
  have HF := Lib.hid hF
  have HCM : Hid (∀ (W : World) (F' : Nat → Prop), PIn w0 W p d F' ((S.store 0 (padB (spName n) 256)).2.store (jFirst n) (padB ⟨#[1]⟩ 256)).2 → Calls Tryz.prog 42 #[.pointer (some ⟨p, 0, none⟩)] W fun e w' =>
      e = .returned (.int .i64 ((S.store 0 (padB (spName n) 256)).2.store (jFirst n) (padB ⟨#[1]⟩ 256)).2.commit.1) ∧ PIn w0 w' p d (ext F' W w') ((S.store 0 (padB (spName n) 256)).2.store (jFirst n) (padB ⟨#[1]⟩ 256)).2.commit.2 ∧ Upd F' W w') := fun W F' hx =>
    commit_in hx (by rw [HR2.out.1, HR1.out.1]; exact hleft) (by rw [HR2.out.1, HR1.out.1]; exact hlog) (by rw [HR2.out.2.1, HR1.out.2.1]; exact hck)
  clear h hc hF HLD HR1 HR2 hleft hlog hck
  generalize padB (spName n) 256 = hd at *
  generalize padB ⟨#[1]⟩ 256 = bt at *
  generalize hS1 : (S.store 0 hd).2 = S1 at *
  generalize hS2 : (S1.store (jFirst n) bt).2 = S2 at *
  have HS1 := Lib.hid hS1
  have HS2 := Lib.hid hS2
  have HSZ1 := Lib.hid hZ1
  have HSZ2 := Lib.hid hZ2
  clear hS1 hS2 hZ1 hZ2
  go_enter Tryz.func52, Tryz.ntmps52
  go_wp2_with fail
  refine HNm.out.mono ?_
  rintro e w1 ⟨rfl, hB⟩
  have HB1 := Lib.hid hB
  clear hB HNm
  go_wp2_with fail
  refine (HPd1.out w1).mono ?_
  rintro e w2 ⟨rfl, hB⟩
  have HB2 := Lib.hid (HB1.out.trans (hB.mono HB1.out.size))
  clear hB HPd1 HB1
  go_wp2_with fail
  refine (HPd2.out w2).mono ?_
  rintro e w3 ⟨rfl, hB⟩
  have HB3 := Lib.hid (HB2.out.trans (hB.mono HB2.out.size))
  clear hB HPd2 HB2
  have HP3 := Lib.hid (HP.out.made HB3.out)
  have hsl := lt_of HC.out
  have h3s : w3.heap[s]? = some (.cells #[.int .i64 n, .pointer (some ⟨p, 0, none⟩)] 76 (0, 0)) := (HB3.out.block s hsl).trans HC.out
  have hp3 : w3.cell? ⟨s, 1, none⟩ = some (.pointer (some ⟨p, 0, none⟩)) := by rw [cell_of h3s]; rfl
  have HC3 := Lib.hid h3s
  have HST := Lib.hid (store_in HP3.out 0 hd (by decide) (by rw [HSZ1.out]; omega))
  clear h3s
  go_wp2_with fail
  refine HST.out.mono ?_
  rintro e w4 ⟨rfl, hP4, hU4⟩
  rw [HS1.out] at hP4
  have HP4 := Lib.hid hP4
  have HU4 := Lib.hid hU4
  have HC4 := Lib.hid ((hU4.block s (lt_of HC3.out) HF.out).trans HC3.out)
  have hp4 : w4.cell? ⟨s, 1, none⟩ = some (.pointer (some ⟨p, 0, none⟩)) := by rw [cell_of HC4.out]; rfl
  clear hP4 hU4 HST hp3
  go_upto_region 4 with fail
  refine wp_region_still_tail 7 (by kernel_rfl) (by kernel_rfl) ?_
  generalize hwd : ({ w4 with drawn := w4.drawn + 1 } : World) = w5 at *
  have hB5 : Below w4.heap.size w4 w5 := by rw [← hwd]; exact ⟨rfl, rfl, rfl, Nat.le_refl _, fun _ _ => rfl⟩
  have hp5 : w5.cell? ⟨s, 1, none⟩ = some (.pointer (some ⟨p, 0, none⟩)) := by rw [← hwd]; exact hp4
  have HP5 := Lib.hid (HP4.out.made hB5)
  have HC5 := Lib.hid ((hB5.block s (lt_of HC4.out)).trans HC4.out)
  have HB5 := Lib.hid hB5
  have hf5 := sfirst_any s n w5 (by rw [cell_of HC5.out]; rfl)
  have hST := store_in HP5.out (jFirst n) bt (wf_small (by omega)) (by rw [HSZ2.out]; omega)
  have HST := Lib.hid hST
  clear hwd hB5 hp4 hST
  simp only [List.take_succ_cons, List.take_zero, List.drop_succ_cons, List.drop_zero]
  repeat still_step
  still_call (hf5.mono fun _ _ ⟨a, b⟩ => ⟨a, b.symm⟩)
  repeat still_step
  refine wpStill_nil ?_
  go_wp2_with fail
  refine HST.out.mono ?_
  rintro e w6 ⟨rfl, hP6, hU6⟩
  rw [HS2.out] at hP6
  have hnF : ¬ ext F w3 w4 s := fun hx => hx.elim HF.out (fun hx => by have := lt_of HC3.out; omega)
  have HC6 := Lib.hid ((hU6.block s (lt_of HC5.out) hnF).trans HC5.out)
  have hp6 : w6.cell? ⟨s, 1, none⟩ = some (.pointer (some ⟨p, 0, none⟩)) := by rw [cell_of HC6.out]; rfl
  have HP6 := Lib.hid hP6
  have HU6 := Lib.hid hU6
  have HC7 := Lib.hid (HCM.out w6 _ hP6)
  clear hP6 hU6 HST hp5 hf5 hnF
  go_wp2_with fail
  refine HC7.out.mono ?_
  rintro e w7 ⟨rfl, hP7, hU7⟩
  have HP7 := Lib.hid hP7
  have HU7 := Lib.hid hU7
  clear hP7 hU7 HC7
  go_wp2
  go_ret
  have s3 := HB3.out.size
  have s4 := HU4.out.size
  have s5 := HB5.out.size
  have s6 := HU6.out.size
  have s7 := HU7.out.size
  have hU : Upd F w w7 := by
    refine (((Upd.below HB3.out (fun x hx hle => by omega) : Upd F w w3).then HU4.out (fun x hx hf => hf)).trans (Upd.below HB5.out (fun x hx hle => by omega))).then (HU6.out.then HU7.out (fun x hx hf => ?_)) (fun x hx hf => ?_)
    · rcases hf with hf | hf
      · exact hf
      · omega
    · rcases hf with hf | hf
      · exact hf
      · omega
  refine ⟨rfl, ⟨HP7.out.pat.mono fun b hb => ?_, fun b hb => ?_, HP7.out.below⟩, hU⟩
  · rcases hb with ((hb | hb) | hb) | hb
    · exact .inl hb
    · exact .inr ⟨by omega, by omega⟩
    · exact .inr ⟨by omega, by omega⟩
    · exact .inr ⟨by omega, by omega⟩
  · rcases hb with hb | hb
    · exact HP.out.new b hb
    · have := HP.out.below.size; omega
end Go.Proofs.YtdoankamaobkoaaGreatDoor
