/- same, whatever the two spaces are: true just where the space is as the reference has it. -/
import Derived.Test.YtdoankamaobkoaaGreatDoorS3
set_option linter.unusedSimpArgs false
set_option linter.unusedVariables false
namespace Go.Proofs.YtdoankamaobkoaaGreatDoor
open Go.RowKit Go.Maps Go.Shelf

/-- two rows that are not the same -/
theorem first_apart : ∀ {l1 l2 : List Int}, l1.length = l2.length → l1 ≠ l2 → ∃ i, i < l1.length ∧ l1.getD i 0 ≠ l2.getD i 0 ∧ ∀ j, j < i → l1.getD j 0 = l2.getD j 0
  | [], [], _, h => absurd rfl h
  | [], _ :: _, h, _ => by simp at h
  | _ :: _, [], h, _ => by simp at h
  | a :: l1, b :: l2, h, hne => by
    by_cases e : a = b
    · subst e
      obtain ⟨i, h1, h2, h3⟩ := first_apart (l1 := l1) (l2 := l2) (by simpa using h) (fun e => hne (by rw [e]))
      refine ⟨i + 1, by simp; omega, by simpa using h2, fun j hj => ?_⟩
      cases j with
      | zero => rfl
      | succ j => simpa using h3 j (by omega)
    · exact ⟨0, by simp, by simpa using e, fun j hj => by omega⟩
set_option maxHeartbeats 1000000 in
set_option maxRecDepth 100000 in
theorem otherInts_any (a1 a2 : Option Addr) (c1 c2 : Nat) (l1 l2 : List Int) (lo1 hi1 lo2 hi2 : Nat) (w : World) (hl : l1.length ≤ 100000) (hne : l1 ≠ l2) (h1 : IntRow w lo1 hi1 a1 l1) (h2 : IntRow w lo2 hi2 a2 l2) :
    Calls Tryz.prog 54 #[.slice a1 l1.length c1, .slice a2 l2.length c2] w fun e w' => e = .returned (.bool false) ∧ Below w.heap.size w w' := by
  have H1 := Lib.hid h1
  have H2 := Lib.hid h2
  clear h1 h2
  by_cases hlen : l1.length = l2.length
  · obtain ⟨q, hq, hd, hs⟩ := first_apart hlen hne
    have HS := Lib.hid hs
    clear hne hs
    generalize hm1 : l1.length = m at *
    generalize hm2 : l2.length = m' at *
    subst hlen
    go_enter Tryz.func54, Tryz.ntmps54
    go_wp2
    go_loopw [13] (fun v wr => ∃ (k p : Nat), v = .int .i64 k ∧ k ≤ q ∧ wr = w.drewN p) (fun v _ => m - (intOf v).toNat)
    case atStart => exact ⟨0, 0, rfl, by omega, rfl⟩
    case round =>
      obtain ⟨k, p, rfl, hk, rfl⟩ := hrel
      obtain ⟨g1, rfl, _, _, hg1, e1⟩ := H1.out k (by omega)
      obtain ⟨g2, rfl, _, _, hg2, e2⟩ := H2.out k (by omega)
      by_cases hlt : k < q
      · have hv := HS.out k hlt
        rw [hv] at e1
        clear hv hd
        generalize l2.getD k 0 = v at *
        have f1 : ∀ p, (w.drewN p).cell? ⟨g1, k, none⟩ = some (.int .i64 v) := fun p => e1
        have f2 : ∀ p, (w.drewN p).cell? ⟨g2, k, none⟩ = some (.int .i64 v) := fun p => e2
        go_upto_region 6 with fail
        go_quiet (fail)
        go_wp2
        go_roundw
        case rel => exact ⟨k + 1, _, by go_num, by omega, rfl⟩
        case measure => simp [intOf]; omega
      · obtain rfl : k = q := by omega
        generalize l1.getD k 0 = v1 at *
        generalize l2.getD k 0 = v2 at *
        have f1 : ∀ p, (w.drewN p).cell? ⟨g1, k, none⟩ = some (.int .i64 v1) := fun p => e1
        have f2 : ∀ p, (w.drewN p).cell? ⟨g2, k, none⟩ = some (.int .i64 v2) := fun p => e2
        have hb : (v1 != v2) = true := by simpa using hd
        go_upto_region 6 with fail
        go_quiet (fail)
        go_wp2
        go_ret
        exact ⟨rfl, by rw [drewN_drewN]; exact drewN_below w _⟩
  · have hb : ((l1.length : Int) != (l2.length : Int)) = true := by simp; omega
    generalize hm1 : l1.length = m at *
    generalize hm2 : l2.length = m' at *
    go_enter Tryz.func54, Tryz.ntmps54
    go_wp2
    go_ret
    exact ⟨rfl, Below.refl _ _⟩

section
variable {w0 w : World} {s d r lo hi : Nat} {F : Nat → Prop} {z N : Int} {V D : Int → ByteArray} {R : Rf}
set_option maxHeartbeats 1000000 in
set_option maxRecDepth 100000 in
/-- another head -/
theorem same_top (h : SIn w0 w s d F z V D N) (hr : RIn w r lo hi z R) (hne : (V 0).extract 8 256 ≠ R.top) (hap : Apart F lo hi w) (hFl : ∀ b, F b → b < w.heap.size) (hN : N < 1000000000000) :
    Calls Tryz.prog 21 #[.pointer (some ⟨s, 0, none⟩), .pointer (some ⟨r, 0, none⟩)] w fun e w' => e = .returned (.bool false) ∧ SStp w0 w w' s d F z V D (N + 10000) := by
  have H0 := Lib.hid h
  have HHD := Lib.hid (head_sp h (by omega))
  have HLS : Hid (∀ W, RIn W r lo hi z R → _) := fun W hx => rlist_any (w := W) hx
  have HSE : Hid (∀ W, RIn W r lo hi z R → W.cell? ⟨r, 1, none⟩ = some (.string R.top)) := fun W hx => by
    obtain ⟨gp, gt, cp, ct, hS⟩ := hx.see
    exact hS.c1
  have HR := Lib.hid hr
  have HA := Lib.hid hap
  have hb1 := bytes_neq hne
  have hb2 : (((V 0).extract 8 256).toList != R.top.toList) = true := by simp [bne, hb1]
  clear h hr hap hFl hne
  generalize R.top = tp at *
  generalize (V 0).extract 8 256 = t at *
  generalize rList z R (spMany z) = l at *
  go_enter Tryz.func21, Tryz.ntmps21
  go_wp2_with fail
  refine HHD.out.mono ?_
  rintro e w1 ⟨rfl, hS1⟩
  have HS1 := Lib.hid hS1
  have HR1 := Lib.hid (HR.out.upd hS1.upd HA.out.no)
  have HL1 := Lib.hid (HLS.out w1 HR1.out)
  clear hS1 HHD
  go_wp2_with fail
  refine HL1.out.mono ?_
  rintro e w2 ⟨a2, cap2, rfl, hB2, ho2⟩
  have HS2 := Lib.hid (fun q => SStp.made H0.out HS1.out (hB2.trans ((drewN_below w2 q).mono hB2.size)))
  have c1 : ∀ q, (w2.drewN q).cell? ⟨r, 1, none⟩ = some (.string tp) := fun q => HSE.out _ ((HR1.out.made hB2).made (drewN_below w2 q))
  clear hB2 ho2 HL1 HLS HSE HS1 HR1 HA HR
  go_upto_region 3 with fail
  go_quiet (fail)
  go_wp2
  go_ret
  exact ⟨rfl, (HS2.out _).mono (by omega)⟩
set_option maxHeartbeats 8000000 in
set_option maxRecDepth 100000 in
/-- the same head, other pages taken -/
theorem same_list (h : SIn w0 w s d F z V D N) (hr : RIn w r lo hi z R) (htop : (V 0).extract 8 256 = R.top) (hne : takenTo z (V (jFirst z)) (spMany z) ≠ rList z R (spMany z)) (hap : Apart F lo hi w) (hFl : ∀ b, F b → b < w.heap.size) (hN : N < 1000000000000) :
    Calls Tryz.prog 21 #[.pointer (some ⟨s, 0, none⟩), .pointer (some ⟨r, 0, none⟩)] w fun e w' => e = .returned (.bool false) ∧ SStp w0 w w' s d F z V D (N + 10000) := by
  have hbd := h.bd
  obtain ⟨m1, m2, m3⟩ := spMany_bd hbd.1 hbd.2
  have H0 := Lib.hid h
  have HHD := Lib.hid (head_sp h (by omega))
  rw [htop] at HHD
  have HLS : Hid (∀ W, RIn W r lo hi z R → _) := fun W hx => rlist_any (w := W) hx
  have HSE : Hid (∀ W, RIn W r lo hi z R → W.cell? ⟨r, 1, none⟩ = some (.string R.top)) := fun W hx => by
    obtain ⟨gp, gt, cp, ct, hS⟩ := hx.see
    exact hS.c1
  have HRB : Hid (lo ≤ r ∧ r < hi) := by obtain ⟨gp, gt, cp, ct, hS⟩ := hr.see; exact ⟨hS.sr.1, hS.sr.2.1⟩
  have HTK : Hid (∀ W F' M, SIn w0 W s d F' z V D M → M < 2305843009213692000 → Calls Tryz.prog 29 #[.pointer (some ⟨s, 0, none⟩)] W fun e w' => ∃ a cap w1, e = .returned (.slice a (takenTo z (V (jFirst z)) (spMany z)).length cap) ∧
      SStp w0 W w1 s d F' z V D (M + 2) ∧ Below w1.heap.size w1 w' ∧ IntRow w' w1.heap.size w'.heap.size a (takenTo z (V (jFirst z)) (spMany z))) := fun W F' M hx hM =>
    (takenl_sp hx (by omega)).mono fun e w' ⟨a, cap, w1, he, hs, hb, ho⟩ => ⟨a, cap, w1, he, hs, hb, intRow_of ho⟩
  have HTL : Hid ((takenTo z (V (jFirst z)) (spMany z)).length ≤ 100000) := Nat.le_trans (takenTo_length _ _ _) (by omega)
  have HNE := Lib.hid hne
  have HR := Lib.hid hr
  have HA := Lib.hid hap
  have HFl := Lib.hid hFl
  clear h hr hap hFl hne htop
  obtain ⟨tp, HTP⟩ : ∃ tp, Hid (R.top = tp) := ⟨_, Lib.hid rfl⟩
  rw [HTP.out] at HHD HSE
  generalize rList z R (spMany z) = l at *
  generalize takenTo z (V (jFirst z)) (spMany z) = l' at *
  go_enter Tryz.func21, Tryz.ntmps21
  go_wp2_with fail
  refine HHD.out.mono ?_
  rintro e w1 ⟨rfl, hS1⟩
  have HC1 := Lib.hid ((Chn.refl H0.out).step hS1)
  have HR1 := Lib.hid (HR.out.upd hS1.upd HA.out.no)
  have HA1 := Lib.hid (HA.out.step hS1.upd.size)
  have HL1 := Lib.hid (HLS.out w1 HR1.out)
  clear hS1 HHD
  go_wp2_with fail
  refine HL1.out.mono ?_
  rintro e w2 ⟨a2, cap2, rfl, hB2, ho2⟩
  have HR2 := Lib.hid ((HR1.out.made hB2).made ((Below.refl _ w2).drew))
  have HC2 := Lib.hid ((HC1.out.made hB2).made ((Below.refl _ w2).drew))
  have HI2 := Lib.hid ((intRow_of ho2).made ((Below.refl _ w2).drew))
  have HAP2 : Hid (Apart (ext F w w1) w1.heap.size w2.heap.size w2.drew) := ⟨Nat.le_refl _, fun b h1 _ hb => hb.elim (fun hb => by have := HFl.out b hb; have := HC1.out.upd.size; omega) (fun hb => by omega)⟩
  have c1 : w2.drew.cell? ⟨r, 1, none⟩ = some (.string tp) := HSE.out _ HR2.out
  have HRA : Hid (Apart (ext F w w1) lo hi w2.drew) := HA1.out.made hB2.size
  have HT2 := Lib.hid (HTK.out w2.drew _ _ HC2.out.sin (by omega))
  clear hB2 ho2 HL1 HLS HSE HC1 HR1 HA1 HA HR HFl HR2 HTK
  generalize ext F w w1 = F2 at *
  generalize w1.heap.size = q1 at *
  generalize w2.heap.size = q2 at *
  go_upto_region 3 with fail
  refine wp_region_any (by kernel_rfl) ?_
  try (change wpAny _ _ _ _ _ _ _ (World.drew _))
  refine wpAny_take (i := 0) (v := ?_) rfl (by kernel_rfl) (by kernel_rfl) (by kernel_rfl) (fun _ _ _ h => h) (Or.inl ⟨by rfl, ?_⟩) ?_
  rotate_left
  · (intro w; go_simp; (try with_reducible rfl))
  simp only [List.getElem_toArray, List.getElem_cons_succ, List.getElem_cons_zero, Act.put, List.setIfInBounds_toArray, List.set_cons_zero, List.set_cons_succ]
  refine wpAny_take (i := 1) (v := ?_) rfl (by kernel_rfl) (by kernel_rfl) (by kernel_rfl) (fun _ _ _ h => h) (Or.inl ⟨by rfl, ?_⟩) ?_
  rotate_left
  · (intro w; go_simp; (try with_reducible rfl))
  simp only [List.getElem_toArray, List.getElem_cons_succ, List.getElem_cons_zero, Act.put, List.setIfInBounds_toArray, List.set_cons_zero, List.set_cons_succ]
  refine wpAny_take (i := 2) (v := ?_) rfl (by kernel_rfl) (by kernel_rfl) (by kernel_rfl) (fun _ _ _ h => h) (Or.inl ⟨by rfl, ?_⟩) ?_
  rotate_left
  · (intro w; go_simp; (try with_reducible rfl))
  simp only [List.getElem_toArray, List.getElem_cons_succ, List.getElem_cons_zero, Act.put, List.setIfInBounds_toArray, List.set_cons_zero, List.set_cons_succ]
  refine wpAny_take (i := 3) (v := ?_) rfl (by kernel_rfl) (by kernel_rfl) (by kernel_rfl) (fun _ _ _ h => h) (Or.inl ⟨by rfl, ?_⟩) ?_
  rotate_left
  · (intro w; go_simp; (try with_reducible rfl))
  simp only [List.getElem_toArray, List.getElem_cons_succ, List.getElem_cons_zero, Act.put, List.setIfInBounds_toArray, List.set_cons_zero, List.set_cons_succ]
  refine wpAny_take (i := 4) (v := ?_) rfl (by kernel_rfl) (by kernel_rfl) (by kernel_rfl) (fun _ _ _ h => h) (Or.inl ⟨by rfl, ?_⟩) ?_
  rotate_left
  · (intro w; go_simp; (try with_reducible rfl))
  simp only [List.getElem_toArray, List.getElem_cons_succ, List.getElem_cons_zero, Act.put, List.setIfInBounds_toArray, List.set_cons_zero, List.set_cons_succ]
  refine wpAny_take (i := 5) (v := ?_) rfl (by kernel_rfl) (by kernel_rfl) (by kernel_rfl) (fun _ _ _ h => h) (Or.inl ⟨by rfl, ?_⟩) ?_
  rotate_left
  · (intro w; go_simp; (try with_reducible rfl))
  simp only [List.getElem_toArray, List.getElem_cons_succ, List.getElem_cons_zero, Act.put, List.setIfInBounds_toArray, List.set_cons_zero, List.set_cons_succ]
  refine wpAny_take (i := 6) (v := ?_) rfl (by kernel_rfl) (by kernel_rfl) (by kernel_rfl) (fun _ _ _ h => h) (Or.inl ⟨by rfl, ?_⟩) ?_
  rotate_left
  · (intro w; go_simp; (try with_reducible rfl))
  simp only [List.getElem_toArray, List.getElem_cons_succ, List.getElem_cons_zero, Act.put, List.setIfInBounds_toArray, List.set_cons_zero, List.set_cons_succ]
  refine wpAny_ready (rs := [7]) (by kernel_rfl) (by simp) ?_
  refine AllReady.cons rfl (fun K hK => ?_) AllReady.nil
  go_simp
  refine hK _ _ ?_
  clear hK K
  refine wpAny_take (i := 8) (v := ?_) rfl (by kernel_rfl) (by kernel_rfl) (by kernel_rfl) (fun _ _ _ h => h) (Or.inl ⟨by rfl, ?_⟩) ?_
  rotate_left
  · (intro w; go_simp; (try with_reducible rfl))
  simp only [List.getElem_toArray, List.getElem_cons_succ, List.getElem_cons_zero, Act.put, List.setIfInBounds_toArray, List.set_cons_zero, List.set_cons_succ]
  refine wpAny_take (i := 9) (v := ?_) rfl (by kernel_rfl) (by kernel_rfl) (by kernel_rfl) (fun _ _ _ h => h) (Or.inl ⟨by rfl, ?_⟩) ?_
  rotate_left
  · (intro w; go_simp; (try with_reducible rfl))
  simp only [List.getElem_toArray, List.getElem_cons_succ, List.getElem_cons_zero, Act.put, List.setIfInBounds_toArray, List.set_cons_zero, List.set_cons_succ]
  refine wpAny_take (i := 10) (v := ?_) rfl (by kernel_rfl) (by kernel_rfl) (by kernel_rfl) (fun _ _ _ h => h) (Or.inl ⟨by rfl, ?_⟩) ?_
  rotate_left
  · (intro w; go_simp; (try with_reducible rfl))
  simp only [List.getElem_toArray, List.getElem_cons_succ, List.getElem_cons_zero, Act.put, List.setIfInBounds_toArray, List.set_cons_zero, List.set_cons_succ]
  refine wpAny_take (i := 11) (v := ?_) rfl (by kernel_rfl) (by kernel_rfl) (by kernel_rfl) (fun _ _ _ h => h) (Or.inl ⟨by rfl, ?_⟩) ?_
  rotate_left
  · (intro w; go_simp; (try with_reducible rfl))
  simp only [List.getElem_toArray, List.getElem_cons_succ, List.getElem_cons_zero, Act.put, List.setIfInBounds_toArray, List.set_cons_zero, List.set_cons_succ]
  refine wpAny_take (i := 13) (v := ?_) rfl (by kernel_rfl) (by kernel_rfl) (by kernel_rfl) (fun _ _ _ h => h) (Or.inl ⟨by rfl, ?_⟩) ?_
  rotate_left
  · (intro w; go_simp; (try with_reducible rfl))
  simp only [List.getElem_toArray, List.getElem_cons_succ, List.getElem_cons_zero, Act.put, List.setIfInBounds_toArray, List.set_cons_zero, List.set_cons_succ]
  refine wpAny_ready (rs := [12]) (by kernel_rfl) (by simp) ?_
  refine AllReady.cons rfl (fun K hK => ?_) AllReady.nil
  go_simp
  go_at_call 29
  refine HT2.out.mono ?_
  rintro e w3 ⟨a3, cap3, w3', rfl, hS3, hB3, hJ3⟩
  have HC3 := Lib.hid ((HC2.out.step hS3).made hB3)
  have HSI := Lib.hid (otherInts_any a3 a2 cap3 cap2 l' l _ _ _ _ w3 HTL.out HNE.out hJ3 ((HI2.out.keep hS3.upd HAP2.out).made hB3))
  clear hS3 hB3 hJ3 HT2
  refine hK _ _ ?_
  clear hK K
  refine wpAny_ready (rs := [14]) (by kernel_rfl) (by simp) ?_
  refine AllReady.cons rfl (fun K hK => ?_) AllReady.nil
  go_simp
  go_at_call 54
  refine HSI.out.mono ?_
  rintro e w4 ⟨rfl, hB4⟩
  have HC4 := Lib.hid (HC3.out.made hB4)
  clear hB4 HSI
  refine hK _ _ ?_
  clear hK K
  refine wpAny_take (i := 15) (v := ?_) rfl (by kernel_rfl) (by kernel_rfl) (by kernel_rfl) (fun _ _ _ h => h) (Or.inl ⟨by rfl, ?_⟩) ?_
  rotate_left
  · (intro w; go_simp; (try with_reducible rfl))
  simp only [List.getElem_toArray, List.getElem_cons_succ, List.getElem_cons_zero, Act.put, List.setIfInBounds_toArray, List.set_cons_zero, List.set_cons_succ]
  refine wpAny_take (i := 16) (v := ?_) rfl (by kernel_rfl) (by kernel_rfl) (by kernel_rfl) (fun _ _ _ h => h) (Or.inl ⟨by rfl, ?_⟩) ?_
  rotate_left
  · (intro w; go_simp; (try with_reducible rfl))
  simp only [List.getElem_toArray, List.getElem_cons_succ, List.getElem_cons_zero, Act.put, List.setIfInBounds_toArray, List.set_cons_zero, List.set_cons_succ]
  refine wpAny_take (i := 17) (v := ?_) rfl (by kernel_rfl) (by kernel_rfl) (by kernel_rfl) (fun _ _ _ h => h) (Or.inl ⟨by rfl, ?_⟩) ?_
  rotate_left
  · (intro w; go_simp; (try with_reducible rfl))
  simp only [List.getElem_toArray, List.getElem_cons_succ, List.getElem_cons_zero, Act.put, List.setIfInBounds_toArray, List.set_cons_zero, List.set_cons_succ]
  refine wpAny_take (i := 18) (v := undef) rfl (by kernel_rfl) (by kernel_rfl) (by kernel_rfl) (fun _ _ _ h => h) (Or.inr ⟨by kernel_rfl, rfl⟩) ?_
  simp only [List.getElem_toArray, List.getElem_cons_succ, List.getElem_cons_zero, Act.put, List.setIfInBounds_toArray, List.set_cons_zero, List.set_cons_succ]
  refine wpAny_take (i := 19) (v := undef) rfl (by kernel_rfl) (by kernel_rfl) (by kernel_rfl) (fun _ _ _ h => h) (Or.inr ⟨by kernel_rfl, rfl⟩) ?_
  simp only [List.getElem_toArray, List.getElem_cons_succ, List.getElem_cons_zero, Act.put, List.setIfInBounds_toArray, List.set_cons_zero, List.set_cons_succ]
  refine wpAny_take (i := 20) (v := undef) rfl (by kernel_rfl) (by kernel_rfl) (by kernel_rfl) (fun _ _ _ h => h) (Or.inr ⟨by kernel_rfl, rfl⟩) ?_
  simp only [List.getElem_toArray, List.getElem_cons_succ, List.getElem_cons_zero, Act.put, List.setIfInBounds_toArray, List.set_cons_zero, List.set_cons_succ]
  refine wpAny_take (i := 21) (v := undef) rfl (by kernel_rfl) (by kernel_rfl) (by kernel_rfl) (fun _ _ _ h => h) (Or.inr ⟨by kernel_rfl, rfl⟩) ?_
  simp only [List.getElem_toArray, List.getElem_cons_succ, List.getElem_cons_zero, Act.put, List.setIfInBounds_toArray, List.set_cons_zero, List.set_cons_succ]
  refine wpAny_take (i := 22) (v := undef) rfl (by kernel_rfl) (by kernel_rfl) (by kernel_rfl) (fun _ _ _ h => h) (Or.inr ⟨by kernel_rfl, rfl⟩) ?_
  simp only [List.getElem_toArray, List.getElem_cons_succ, List.getElem_cons_zero, Act.put, List.setIfInBounds_toArray, List.set_cons_zero, List.set_cons_succ]
  refine wpAny_take (i := 23) (v := undef) rfl (by kernel_rfl) (by kernel_rfl) (by kernel_rfl) (fun _ _ _ h => h) (Or.inr ⟨by kernel_rfl, rfl⟩) ?_
  simp only [List.getElem_toArray, List.getElem_cons_succ, List.getElem_cons_zero, Act.put, List.setIfInBounds_toArray, List.set_cons_zero, List.set_cons_succ]
  refine wpAny_take (i := 24) (v := undef) rfl (by kernel_rfl) (by kernel_rfl) (by kernel_rfl) (fun _ _ _ h => h) (Or.inr ⟨by kernel_rfl, rfl⟩) ?_
  simp only [List.getElem_toArray, List.getElem_cons_succ, List.getElem_cons_zero, Act.put, List.setIfInBounds_toArray, List.set_cons_zero, List.set_cons_succ]
  refine wpAny_take (i := 25) (v := undef) rfl (by kernel_rfl) (by kernel_rfl) (by kernel_rfl) (fun _ _ _ h => h) (Or.inr ⟨by kernel_rfl, rfl⟩) ?_
  simp only [List.getElem_toArray, List.getElem_cons_succ, List.getElem_cons_zero, Act.put, List.setIfInBounds_toArray, List.set_cons_zero, List.set_cons_succ]
  refine wpAny_take (i := 26) (v := undef) rfl (by kernel_rfl) (by kernel_rfl) (by kernel_rfl) (fun _ _ _ h => h) (Or.inr ⟨by kernel_rfl, rfl⟩) ?_
  simp only [List.getElem_toArray, List.getElem_cons_succ, List.getElem_cons_zero, Act.put, List.setIfInBounds_toArray, List.set_cons_zero, List.set_cons_succ]
  refine wpAny_take (i := 27) (v := undef) rfl (by kernel_rfl) (by kernel_rfl) (by kernel_rfl) (fun _ _ _ h => h) (Or.inr ⟨by kernel_rfl, rfl⟩) ?_
  simp only [List.getElem_toArray, List.getElem_cons_succ, List.getElem_cons_zero, Act.put, List.setIfInBounds_toArray, List.set_cons_zero, List.set_cons_succ]
  refine wpAny_take (i := 28) (v := undef) rfl (by kernel_rfl) (by kernel_rfl) (by kernel_rfl) (fun _ _ _ h => h) (Or.inr ⟨by kernel_rfl, rfl⟩) ?_
  simp only [List.getElem_toArray, List.getElem_cons_succ, List.getElem_cons_zero, Act.put, List.setIfInBounds_toArray, List.set_cons_zero, List.set_cons_succ]
  refine wpAny_take (i := 29) (v := ?_) rfl (by kernel_rfl) (by kernel_rfl) (by kernel_rfl) (fun _ _ _ h => h) (Or.inl ⟨by rfl, ?_⟩) ?_
  rotate_left
  · (intro w; go_simp; (try with_reducible rfl))
  simp only [List.getElem_toArray, List.getElem_cons_succ, List.getElem_cons_zero, Act.put, List.setIfInBounds_toArray, List.set_cons_zero, List.set_cons_succ]
  refine wpAny_done (by kernel_rfl) ?_ _
  clear c1
  go_wp2
  go_ret
  exact ⟨rfl, (Chn.stp H0.out HC4.out).mono (by omega)⟩
end
set_option maxHeartbeats 1000000 in
set_option maxRecDepth 100000 in
/-- the same pages taken, one of them unlike -/
theorem same_page {w0 w : World} {s d r lo hi : Nat} {F : Nat → Prop} {z N : Int} {V D : Int → ByteArray} {R : Rf} (h : SIn w0 w s d F z V D N) (hr : RIn w r lo hi z R) (htop : (V 0).extract 8 256 = R.top) (hmap : MapIs z V (fun j => R.taken.getD j false)) (hls : takenTo z (V (jFirst z)) (spMany z) = rList z R (spMany z)) (q : Nat) (hq : q < (rList z R (spMany z)).length)
    (hlow : ∀ j, j < q → V ((rList z R (spMany z)).getD j 0) = rGet z R ((rList z R (spMany z)).getD j 0)) (hdf : V ((rList z R (spMany z)).getD q 0) ≠ rGet z R ((rList z R (spMany z)).getD q 0)) (hap : Apart F lo hi w) (hFl : ∀ b, F b → b < w.heap.size) (hN : N < 1000000000000) :
    Calls Tryz.prog 21 #[.pointer (some ⟨s, 0, none⟩), .pointer (some ⟨r, 0, none⟩)] w fun e w' => e = .returned (.bool false) ∧ SStp w0 w w' s d F z V D (N + 10000) := by
  have hbd := h.bd
  obtain ⟨m1, m2, m3⟩ := spMany_bd hbd.1 hbd.2
  have H0 := Lib.hid h
  have HHD := Lib.hid (head_sp h (by omega))
  rw [htop] at HHD
  have HLS : Hid (∀ W, RIn W r lo hi z R → _) := fun W hx => rlist_any (w := W) hx
  have HSE : Hid (∀ W, RIn W r lo hi z R → ∃ gp cp, W.cell? ⟨r, 1, none⟩ = some (.string R.top) ∧ W.cell? ⟨r, 2, none⟩ = some (.slice (some ⟨gp, 0, none⟩) (spMany z) cp)) := fun W hx => by
    obtain ⟨gp, gt, cp, ct, hS⟩ := hx.see
    exact ⟨gp, cp, hS.c1, hS.c2⟩
  have HTK : Hid (∀ W F' M, SIn w0 W s d F' z V D M → M < 2305843009213692000 → Calls Tryz.prog 29 #[.pointer (some ⟨s, 0, none⟩)] W fun e w' => ∃ a cap w1, e = .returned (.slice a (rList z R (spMany z)).length cap) ∧
      SStp w0 W w1 s d F' z V D (M + 2) ∧ Below w1.heap.size w1 w' ∧ IntRow w' w1.heap.size w'.heap.size a (rList z R (spMany z))) := fun W F' M hx hM => by
    have := takenl_sp hx (by omega)
    rw [hls] at this
    exact this.mono fun e w' ⟨a, cap, w1, he, hs, hb, ho⟩ => ⟨a, cap, w1, he, hs, hb, intRow_of ho⟩
  have HFR : Hid (∀ W F' M, SIn w0 W s d F' z V D M → M < 2305843009213692000 → Calls Tryz.prog 14 #[.pointer (some ⟨s, 0, none⟩)] W fun e w' => e = .returned (.int .i64 ((spMany z : Int) - (rList z R (spMany z)).length)) ∧ SStp w0 W w' s d F' z V D (M + 4)) := fun W F' M hx hM => by
    have := free_sp hx hM
    unfold spFree at this
    rw [hls] at this
    exact this
  have HGT : Hid (∀ W F' M i, SIn w0 W s d F' z V D M → RIn W r lo hi z R → Apart F' lo hi W → M < 2305843009213692000 → i < (rList z R (spMany z)).length → ∃ x y, Calls Tryz.prog 26 #[.pointer (some ⟨s, 0, none⟩), .int .i64 ((rList z R (spMany z)).getD i 0)] W (fun e w' =>
      e = .returned (.tuple #[.string x, .int .i64 0]) ∧ SStp w0 W w' s d F' z V D (M + 4) ∧
        Calls Tryz.prog 55 #[.pointer (some ⟨r, 0, none⟩), .int .i64 ((rList z R (spMany z)).getD i 0)] w' fun e w'' => e = .returned (.tuple #[.string y, .int .i64 0]) ∧ w' = w'') ∧ (i < q → x = y) ∧ (i = q → (x.toList == y.toList) = false)) := fun W F' M i hx hR hA hM hi => by
    obtain ⟨j, hj, he, ht⟩ := rList_get hi
    refine ⟨V ((rList z R (spMany z)).getD i 0), rGet z R ((rList z R (spMany z)).getD i 0), ?_, fun hlt => hlow i hlt, fun e => by subst e; exact bytes_neq hdf⟩
    rw [he]
    have h0 : rMay z R (jFirst z + 1 + (j : Int)) = 0 := by
      unfold rMay
      rw [if_neg (by unfold rOut; omega), show (jFirst z + 1 + (j : Int) - (jFirst z + 1)).toNat = j by omega, ht]; rfl
    have h1 : spTaken z V (jFirst z + 1 + (j : Int)) = 0 := by
      have := hmap.taken hbd.1 hbd.2 hj
      rw [this]
      simp only [ht, if_true]
    have hg := get_sp hx (jFirst z + 1 + (j : Int)) (by omega)
    rw [h1, if_pos rfl] at hg
    refine hg.mono fun e w' ⟨he, hs⟩ => ⟨he, hs, ?_⟩
    have := rget_any (hR.upd hs.upd hA.no) (jFirst z + 1 + (j : Int))
    rw [h0] at this
    exact this
  have HL : Hid ((rList z R (spMany z)).length ≤ spMany z) := rList_length z R (spMany z)
  have HR := Lib.hid hr
  have HA := Lib.hid hap
  have HFl := Lib.hid hFl
  clear h hr hap hFl m3 htop hmap hls hlow hdf
  have HRB : Hid (lo ≤ r ∧ r < hi) := by obtain ⟨gp, gt, cp, ct, hS⟩ := HR.out.see; exact ⟨hS.sr.1, hS.sr.2.1⟩
  obtain ⟨tp, HTP⟩ : ∃ tp, Hid (R.top = tp) := ⟨_, Lib.hid rfl⟩
  rw [HTP.out] at HHD
  generalize rList z R (spMany z) = l at *
  generalize spMany z = m at *
  go_enter Tryz.func21, Tryz.ntmps21
  go_wp2_with fail
  refine HHD.out.mono ?_
  rintro e w1 ⟨rfl, hS1⟩
  have HC1 := Lib.hid ((Chn.refl H0.out).step hS1)
  have HR1 := Lib.hid (HR.out.upd hS1.upd HA.out.no)
  have HA1 := Lib.hid (HA.out.step hS1.upd.size)
  have HL1 := Lib.hid (HLS.out w1 HR1.out)
  clear hS1 HHD
  go_wp2_with fail
  refine HL1.out.mono ?_
  rintro e w2 ⟨a2, cap2, rfl, hB2, ho2⟩
  obtain ⟨v2, gp, cp, hv2, HP2⟩ : ∃ v2 gp cp, v2 = Value.slice (some ⟨gp, 0, none⟩) m cp ∧ Hid (Pk w0 w w2 s d r lo hi F (ext F w w1) z V D R (N + 2) a2 w1.heap.size w2.heap.size l v2) := by
    obtain ⟨gp, cp, c1, c2⟩ := HSE.out _ (HR1.out.made hB2)
    exact ⟨_, gp, cp, rfl, HC1.out.made hB2, HR1.out.made hB2, HA1.out.made hB2.size, intRow_of ho2, ⟨Nat.le_refl _, fun b h1 _ hb => hb.elim (fun hb => by have := HFl.out b hb; have := HC1.out.upd.size; omega) (fun hb => by omega)⟩, HRB.out, c1, c2⟩
  generalize ext F w w1 = F2 at *
  generalize w1.heap.size = q1 at *
  generalize w2.heap.size = q2 at *
  clear hB2 ho2 HL1 HLS HC1 HR1 HA1 HFl HA HR HSE
  subst hv2
  have HPD := Lib.hid (HP2.out.made ((Below.refl _ w2).drew))
  have c1 : w2.drew.cell? ⟨r, 1, none⟩ = some (.string tp) := by rw [← HTP.out]; exact HPD.out.c1
  have c2 := HPD.out.c2
  have HT2 := Lib.hid (HTK.out w2.drew F2 _ HPD.out.chn.sin (by omega))
  have HNN := Lib.hid hN
  have HLL : Hid (l.length ≤ 100000 ∧ l.length ≤ m) := ⟨by have := HL.out; omega, HL.out⟩
  have hwr : IntKind.i64.wrap ((m : Int) - (l.length : Int)) = (m : Int) - (l.length : Int) := IntWalk.i64_in _ (by have := HL.out; omega)
  have hL := HL.out
  have H00 := Lib.hid H0.out
  clear HP2 hN hbd HTK H0
  go_upto_region 3 with fail
  go_region_held3 (fun w' => w'.cell? ⟨r, 1, none⟩ = some (.string tp) ∧ w'.cell? ⟨r, 2, none⟩ = some (.slice (some ⟨gp, 0, none⟩) m cp)) (go_keep)
   (first
    | (go_at_call 29; refine HT2.out.mono ?_; rintro e w3 ⟨a3, cap3, w3', rfl, hS3, hB3, hJ3⟩
       have HP3 := Lib.hid ((HPD.out.step hS3).made hB3)
       have HSI := Lib.hid (sameInts_any a3 a2 cap3 cap2 l _ _ _ _ w3 HLL.out.1 hJ3 HP3.out.row)
       have d1 : w3.cell? ⟨r, 1, none⟩ = some (.string tp) := by rw [← HTP.out]; exact HP3.out.c1
       have d2 := HP3.out.c2
       clear hS3 hB3 hJ3 HT2)
    | (go_at_call 54; refine HSI.out.mono ?_; rintro e w4 ⟨rfl, hB4⟩
       have HP4 := Lib.hid (HP3.out.made hB4)
       have HF4 := Lib.hid (HFR.out w4 _ _ HP4.out.chn.sin (by have := HNN.out; omega))
       have e1 : w4.cell? ⟨r, 1, none⟩ = some (.string tp) := by rw [← HTP.out]; exact HP4.out.c1
       have e2 := HP4.out.c2
       clear hB4 HSI)
    | (go_at_call 14; refine HF4.out.mono ?_; rintro e w5 ⟨rfl, hS5⟩
       have HP5 := Lib.hid (HP4.out.step hS5)
       have f1 : w5.cell? ⟨r, 1, none⟩ = some (.string tp) := by rw [← HTP.out]; exact HP5.out.c1
       have f2 := HP5.out.c2
       clear hS5 HF4))
  clear c1 c2 d1 d2 e1 e2 f1 f2 HPD HP3 HP4 hwr
  go_wp2
  go_loopw [52] (fun v wr => ∃ (k : Nat) (F' : Nat → Prop), v = .int .i64 k ∧ k ≤ q ∧ Hid (Pk w0 w wr s d r lo hi F F' z V D R (N + 100 + 4 * k) a2 q1 q2 l (.slice (some ⟨gp, 0, none⟩) m cp))) (fun v _ => l.length - (intOf v).toNat)
  case atStart => exact ⟨0, _, rfl, by omega, Lib.hid ⟨⟨HP5.out.chn.sin.mono (by omega), HP5.out.chn.upd, HP5.out.chn.sub⟩, HP5.out.ref, HP5.out.ap, HP5.out.row, HP5.out.ap2, HP5.out.rb, HP5.out.c1, HP5.out.c2⟩⟩
  case round =>
    obtain ⟨k, F', rfl, hk, HPK⟩ := hrel
    clear HP5
    have hlt : k < l.length := by omega
    obtain ⟨x, y, hgx, hsm, hdf⟩ := HGT.out wr F' _ k HPK.out.chn.sin HPK.out.ref HPK.out.ap (by have := HNN.out; have := HLL.out; omega) hlt
    have HGX := Lib.hid hgx
    obtain ⟨g, rfl, _, _, hgl, ec⟩ := HPK.out.row k hlt
    have HRK : Hid (∀ w', Pk w0 w w' s d r lo hi F (ext F' wr w') z V D R (N + 100 + 4 * k + 4) (some ⟨g, 0, none⟩) q1 q2 l (.slice (some ⟨gp, 0, none⟩) m cp) → w'.cell? ⟨g, k, none⟩ = some (.int .i64 (l.getD k 0))) := fun w' hp => by
      obtain ⟨g', he, _, _, _, hc⟩ := hp.row k hlt
      simp at he
      subst he
      exact hc
    clear hgx
    generalize l.getD k 0 = p at *
    by_cases hkq : k < q
    · obtain rfl := hsm hkq
      clear hsm hdf
      go_wp2_with fail
      refine HGX.out.mono ?_
      rintro e w6 ⟨rfl, hS6, hG6⟩
      have HP6 := Lib.hid (HPK.out.step hS6)
      have ec6 := HRK.out _ HP6.out
      have HG6 := Lib.hid hG6
      clear hS6 hG6 HGX HPK HRK ec
      go_wp2_with fail
      refine HG6.out.mono ?_
      rintro e w7 ⟨rfl, rfl⟩
      clear HG6
      go_wp2
      go_roundw
      case rel => exact ⟨k + 1, _, by go_num, by omega, Lib.hid ⟨⟨HP6.out.chn.sin.mono (by push_cast; omega), HP6.out.chn.upd, HP6.out.chn.sub⟩, HP6.out.ref, HP6.out.ap, HP6.out.row, HP6.out.ap2, HP6.out.rb, HP6.out.c1, HP6.out.c2⟩⟩
      case measure => simp [intOf]; omega
    · have hb1 := hdf (by omega)
      have hb2 : (x.toList != y.toList) = true := by simp [bne, hb1]
      clear hsm hdf
      go_wp2_with fail
      refine HGX.out.mono ?_
      rintro e w6 ⟨rfl, hS6, hG6⟩
      have HP6 := Lib.hid (HPK.out.step hS6)
      have ec6 := HRK.out _ HP6.out
      have HG6 := Lib.hid hG6
      clear hS6 hG6 HGX HPK HRK ec
      go_wp2_with fail
      refine HG6.out.mono ?_
      rintro e w7 ⟨rfl, rfl⟩
      clear HG6
      go_wp2
      go_ret
      exact ⟨rfl, (Chn.stp H00.out HP6.out.chn).mono (by have := HLL.out; omega)⟩

/-- the least index at which something holds -/
theorem least_at {p : Nat → Prop} : ∀ m, (∀ j, j < m → ¬ p j) ∨ ∃ i, i < m ∧ p i ∧ ∀ j, j < i → ¬ p j
  | 0 => .inl fun j hj => by omega
  | m + 1 => by
    rcases least_at (p := p) m with h | ⟨i, h1, h2, h3⟩
    · by_cases hp : p m
      · exact .inr ⟨m, by omega, hp, h⟩
      · refine .inl fun j hj => ?_
        by_cases e : j = m
        · subst e; exact hp
        · exact h j (by omega)
    · exact .inr ⟨i, by omega, h2, h3⟩
theorem list_mem {z : Int} {f : Nat → Bool} {m j : Nat} : jFirst z + 1 + (j : Int) ∈ ((List.range m).filter f).map (fun (j : Nat) => jFirst z + 1 + (j : Int)) ↔ j < m ∧ f j = true := by
  constructor
  · intro h
    obtain ⟨i, hi, he⟩ := List.mem_map.1 h
    obtain ⟨h1, h2⟩ := List.mem_filter.1 hi
    obtain rfl : i = j := by omega
    exact ⟨List.mem_range.1 h1, h2⟩
  · intro ⟨h1, h2⟩
    exact List.mem_map.2 ⟨j, List.mem_filter.2 ⟨List.mem_range.2 h1, h2⟩, rfl⟩
/-- true just where the space is as the reference has it -/
theorem same_dec {w0 w : World} {s d r lo hi : Nat} {F : Nat → Prop} {z N : Int} {V D : Int → ByteArray} {R : Rf} (h : SIn w0 w s d F z V D N) (hr : RIn w r lo hi z R) (hname : (V 0).extract 0 8 = spName z) (hnp : R.pages.length = spMany z) (hnt : R.taken.length = spMany z) (hap : Apart F lo hi w) (hFl : ∀ b, F b → b < w.heap.size) (hN : N < 1000000000000) :
    ∃ b : Bool, (b = true ↔ Rep z V R) ∧ Calls Tryz.prog 21 #[.pointer (some ⟨s, 0, none⟩), .pointer (some ⟨r, 0, none⟩)] w fun e w' => e = .returned (.bool b) ∧ SStp w0 w w' s d F z V D (N + 10000) := by
  by_cases htop : (V 0).extract 8 256 = R.top
  · by_cases hls : takenTo z (V (jFirst z)) (spMany z) = rList z R (spMany z)
    · have hmap : MapIs z V (fun j => R.taken.getD j false) := ⟨fun j hj => by
        have := congrArg (fun l => jFirst z + 1 + (j : Int) ∈ l) hls
        unfold takenTo rList at this
        simp only [list_mem, hj, true_and] at this
        exact Bool.eq_iff_iff.2 (by rw [this])⟩
      rcases least_at (p := fun j => j < (rList z R (spMany z)).length ∧ V ((rList z R (spMany z)).getD j 0) ≠ rGet z R ((rList z R (spMany z)).getD j 0)) (rList z R (spMany z)).length with hall | ⟨q, hq, hd, hlow⟩
      · have hp : Rep z V R := by
          refine ⟨htop, hname, hmap, fun j hj ht => ?_, hnp, hnt⟩
          have hm : jFirst z + 1 + (j : Int) ∈ rList z R (spMany z) := list_mem.2 ⟨hj, ht⟩
          obtain ⟨i, hi, he⟩ := List.getElem_of_mem hm
          have hx := hall i hi
          have hge : (rList z R (spMany z)).getD i 0 = jFirst z + 1 + (j : Int) := by rw [List.getD_eq_getElem?_getD, List.getElem?_eq_getElem hi]; exact he
          rw [hge] at hx
          have hv : V (jFirst z + 1 + (j : Int)) = rGet z R (jFirst z + 1 + (j : Int)) := Decidable.byContradiction fun hne => hx ⟨hi, hne⟩
          rw [hv]
          have h0 : rMay z R (jFirst z + 1 + (j : Int)) = 0 := by
            unfold rMay
            have hb := spMany_bd h.bd.1 h.bd.2
            rw [if_neg (by unfold rOut; omega), show (jFirst z + 1 + (j : Int) - (jFirst z + 1)).toNat = j by omega, ht]; rfl
          unfold rGet rAt
          rw [if_pos h0, show (jFirst z + 1 + (j : Int) - (jFirst z + 1)).toNat = j by omega]
        exact ⟨true, ⟨fun _ => hp, fun _ => rfl⟩, same_any h hr hp hap hFl hN⟩
      · refine ⟨false, ⟨fun e => (by cases e), fun hp => ?_⟩, same_page h hr htop hmap hls q hq (fun j hj => Decidable.byContradiction fun hne => hlow j hj ⟨by omega, hne⟩) hd.2 hap hFl hN⟩
        exfalso
        obtain ⟨j, hj, he, ht⟩ := rList_get hq
        refine hd.2 ?_
        have hg := rep_get hp h.bd.1 h.bd.2 ((rList z R (spMany z)).getD q 0)
        rw [← hg, he, if_pos]
        have := hmap.taken h.bd.1 h.bd.2 hj
        rw [this]
        simp only [ht, if_true]
    · exact ⟨false, ⟨fun e => (by cases e), fun hp => absurd (rep_list hp h.bd.1 h.bd.2 _ (Nat.le_refl _)) hls⟩, same_list h hr htop hls hap hFl hN⟩
  · exact ⟨false, ⟨fun e => (by cases e), fun hp => absurd hp.top htop⟩, same_top h hr htop hap hFl hN⟩
end Go.Proofs.YtdoankamaobkoaaGreatDoor
