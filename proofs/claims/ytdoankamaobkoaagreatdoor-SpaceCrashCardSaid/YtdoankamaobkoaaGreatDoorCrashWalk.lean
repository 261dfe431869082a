/- SpaceCrash: the walk. -/
import Derived.Test.YtdoankamaobkoaaGreatDoorCrashW
import Derived.Test.YtdoankamaobkoaaGreatDoorPlaysWalk
import Derived.Deep.RegionHeld3
set_option linter.unusedSimpArgs false
set_option linter.unusedVariables false
namespace Go.Proofs.YtdoankamaobkoaaGreatDoor
open Go.RowKit Go.Maps Go.Shelf

set_option maxHeartbeats 8000000 in
set_option maxRecDepth 100000 in
theorem crash_walk (n : Int) (a1 : Option Addr) (len1 cap1 : Nat) (a2 : Option Addr) (len2 cap2 : Nat) (z2 : List Int) (w : World) (hn : (Lit.int .i64 n).wf = true) (hg : Glob w) (hrow : RowActs w a1 len1) (hlen : len1 ≤ 140737488355328) (hrow2 : RowU8 w a2 len2 z2) (hlen2 : len2 ≤ 140737488355328) :
    Calls Tryz.prog 7 #[.int .i64 n, .slice a1 len1 cap1, .slice a2 len2 cap2] w fun e w' => e = .returned (.bool true) ∧ Below w.heap.size w w' := by
  have HROW := Lib.hid hrow
  have HCUT := Lib.hid hrow2
  have HW := Lib.hid (swakes_any w hg)
  have HBG := Lib.hid (fun w1 hB => begin_dw n 5 hn (by decide) w w1 hB hg)
  have HDO : Hid (∀ X W s d z N, DwEx w X W s d z N → _) := fun X W s d z N h => does_any (w0 := w) (w := X) h
  have hzs := spSize_bd n
  have HG := Lib.hid hg
  clear hrow hrow2 hg
  generalize spSize n = z at *
  go_enter Tryz.func7, Tryz.ntmps7
  go_wp2_with fail
  refine HW.out.mono ?_
  rintro e w1 ⟨rfl, hB⟩
  have HBW := Lib.hid (HBG.out w1 hB)
  clear hB HW HBG
  go_wp2_with fail
  refine HBW.out.mono ?_
  rintro e w2 ⟨W, s0, d, rfl, hD⟩
  have HD := Lib.hid hD
  clear hD HBW
  by_cases hbig : 500 < len1
  · go_wp2
    go_ret
    obtain ⟨F, V, D, r1, lo1, hi1, R1, r2, lo2, hi2, R2, hD, _⟩ := HD.out
    exact ⟨rfl, hD.sin.below⟩
  · go_wp2
    go_loopw [31] (fun v wr => ∃ (k s : Nat), v = .int .i64 k ∧ k ≤ len1 ∧ Hid (DwEx w wr W s d z (5000 + 100000 * k))) (fun v _ => len1 - (intOf v).toNat)
    case atStart => exact ⟨0, s0, rfl, by omega, HD⟩
    case round =>
      obtain ⟨k, s, rfl, hk, HDk⟩ := hrel
      clear HD
      by_cases hlt : k < len1
      · obtain ⟨b, off, kk, t, tx, rfl, hbl, hc0, hw0, hc1, hw1, hc2, hs⟩ := HROW.out k hlt
        have hbel : Below w.heap.size w wr := by obtain ⟨F, V, D, r1, lo1, hi1, R1, r2, lo2, hi2, R2, hD, _⟩ := HDk.out; exact hD.sin.below
        have g0 : wr.cell? ⟨b, off + k * 3, none⟩ = some (.int .i64 kk) := (hbel.cell (p := ⟨b, off + k * 3, none⟩) hbl).trans hc0
        have g1 : wr.cell? ⟨b, off + k * 3 + 1, none⟩ = some (.int .i64 t) := (hbel.cell (p := ⟨b, off + k * 3 + 1, none⟩) hbl).trans hc1
        have g2 : wr.cell? ⟨b, off + k * 3 + 2, none⟩ = some (.string tx) := (hbel.cell (p := ⟨b, off + k * 3 + 2, none⟩) hbl).trans hc2
        have HK := Lib.hid (fun X => kind_any kk 10 X hw0 (by omega) (by omega))
        by_cases hk6 : kindI kk 10 = 6
        · rw [hk6] at HK
          clear g1 g2 hc0 hc1 hc2 hs hw1 hk6 hbel
          obtain ⟨F, V, D, r1, lo1, hi1, R1, r2, lo2, hi2, R2, hD, hp1, hp2⟩ := HDk.out
          obtain ⟨N, HN⟩ : ∃ N : Int, Hid (N = 5000 + 100000 * (k : Int)) := ⟨_, Lib.hid rfl⟩
          rw [← HN.out] at hD
          have hNb : N < 600000000 := by rw [HN.out]; omega
          have HRW := Lib.hid hD.rw
          have HP1 := Lib.hid hp1
          have HP2 := Lib.hid hp2
          have HLEN : Hid (w.heap.size ≤ wr.heap.size) := hD.sin.below.size
          obtain ⟨cut, hcut0, hcut1, HCV⟩ : ∃ cut : Int, 0 ≤ cut ∧ cut < 1000 ∧ Hid ((len2 = 0 → cut = 300) ∧ (0 < len2 → ∃ b2 off2, a2 = some ⟨b2, off2, none⟩ ∧ wr.cell? ⟨b2, off2 + k % len2, none⟩ = some (.int .u8 cut))) := by
            by_cases h0 : len2 = 0
            · exact ⟨300, by omega, by omega, fun _ => rfl, fun h => by omega⟩
            · obtain ⟨b2, off2, ha, hb2, hc, z0, z1⟩ := HCUT.out (k % len2) (Nat.mod_lt _ (by omega))
              exact ⟨z2.getD (k % len2) 0, z0, by omega, fun h => absurd h h0, fun _ => ⟨b2, off2, ha, (hD.sin.below.cell (p := ⟨b2, off2 + k % len2, none⟩) hb2).trans hc⟩⟩
          have HCC := Lib.hid (cut_commit hD.sin cut hcut0 hcut1 (by omega))
          obtain ⟨m0, m1, m2, m3, mf⟩ := HRW.out.cells
          clear hD hp1 hp2 HDk
          have hC2 : (len2 = 0 ∧ cut = 300) ∨ (0 < len2 ∧ ∃ b2 off2, a2 = some ⟨b2, off2, none⟩ ∧ wr.cell? ⟨b2, off2 + k % len2, none⟩ = some (.int .u8 cut)) := by
            by_cases h0 : len2 = 0
            · exact .inl ⟨h0, HCV.out.1 h0⟩
            · exact .inr ⟨by omega, HCV.out.2 (by omega)⟩
          have HC2 := Lib.hid hC2
          clear hC2 HCV
          rcases HC2.out with hx | hx
          case' inl =>
            obtain ⟨hl0, rfl⟩ := hx
            have hl1 : (len2 : Int) ≤ 0 := by omega
            clear HC2 hl0
            obtain ⟨b2, off2, HCU⟩ : ∃ b2 off2 : Nat, Hid (∀ j, j < len2 → b2 < w.heap.size ∧ w.cell? ⟨b2, off2 + j, none⟩ = some (.int .u8 (z2.getD j 0)) ∧ 0 ≤ z2.getD j 0 ∧ z2.getD j 0 ≤ 255) := ⟨0, 0, fun j hj => absurd hj (by omega)⟩
            go_wp2_with (go_at_call 30; refine (HK.out _).mono ?_; rintro e w' ⟨rfl, rfl⟩)
          case' inr =>
            obtain ⟨hl2, b2, off2, rfl, hcc⟩ := hx
            clear HC2
            have HCU : Hid (∀ j, j < len2 → b2 < w.heap.size ∧ w.cell? ⟨b2, off2 + j, none⟩ = some (.int .u8 (z2.getD j 0)) ∧ 0 ≤ z2.getD j 0 ∧ z2.getD j 0 ≤ 255) := fun j hj => by
              obtain ⟨b3, off3, ha, hb3, hc3, hz0, hz1⟩ := HCUT.out j hj
              simp at ha
              obtain ⟨rfl, rfl⟩ := ha
              exact ⟨hb3, hc3, hz0, hz1⟩
            have hrem : (k : Int) % (len2 : Int) = ((k % len2 : Nat) : Int) := by push_cast; rfl
            have hrlt := Nat.mod_lt k hl2
            generalize hqe : k % len2 = q at *
            clear hqe
            go_wp2_with (go_at_call 30; refine (HK.out _).mono ?_; rintro e w' ⟨rfl, rfl⟩)
          all_goals
            refine HCC.out.mono ?_
            rintro e w1 ⟨rfl, hU1, hC1⟩
            have HR1 := Lib.hid (HRW.out.step hU1)
            have HC1 := Lib.hid hC1
            clear hU1 hC1 HCC HRW m0 m1 m2 m3 mf g0
            obtain ⟨G1, HG1⟩ : ∃ G1, Hid (G1 = ext F wr w1) := ⟨_, Lib.hid rfl⟩
            rw [← HG1.out] at HR1 HC1
            obtain ⟨m0, m1, m2, m3, mf⟩ := HR1.out.cells
            go_wp2_with fail
            refine HC1.out.mono ?_
            rintro e w2 ⟨c, rfl, hU2, hK2⟩
            obtain ⟨PV, HPV⟩ : ∃ PV : (Int → ByteArray) → Prop, Hid (PV = fun V' => V' = V ∨ (c ≠ 0 ∧ V' = D)) := ⟨_, Lib.hid rfl⟩
            have HVO : Hid (∀ V', PV V' → vOpen z V' = V') := by
              rw [HPV.out]
              intro V' hV'
              unfold vOpen
              rcases hV' with rfl | ⟨_, rfl⟩
              · rw [if_pos HP1.out.name]
              · rw [if_pos HP2.out.name]
            have HPC : Hid (∀ V', PV V' → PV (vOpen z V')) := fun V' hV' => by rw [HVO.out V' hV']; exact hV'
            have HR2 := Lib.hid (HR1.out.step hU2)
            have HK2 : Hid (DkG w w2 d z (ext G1 w1 w2) (fun E => ∃ V', PV V' ∧ Eff E V') (N + 9000)) := by rw [HPV.out]; exact hK2
            clear hU2 hK2 HC1 HR1 m0 m1 m2 m3 mf
            obtain ⟨G2, HG2⟩ : ∃ G2, Hid (G2 = ext G1 w1 w2) := ⟨_, Lib.hid rfl⟩
            rw [← HG2.out] at HR2 HK2
            clear HG1 HG2
            obtain ⟨m0, m1, m2, m3, mf⟩ := HR2.out.cells
            have HRS := Lib.hid (restore_g HK2.out)
            go_wp2_with fail
            refine HRS.out.mono ?_
            rintro e w3 ⟨rfl, hK3, hU3⟩
            have HR3 := Lib.hid (HR2.out.step hU3)
            have HK3 : Hid (DkG w w3 d z (ext G2 w2 w3) (OnP PV) (N + 9000)) := hK3.imp (by
              rintro E ⟨E0, ⟨V', hV', he⟩, rfl⟩
              exact ⟨rfl, rfl, V', hV', eff_restore he⟩)
            clear hK3 hU3 HRS HR2 HK2 m0 m1 m2 m3 mf
            go_wp2
            go_loopw [11] (fun v wx => ∃ (j : Nat) (G : Nat → Prop), v = .int .i64 j ∧ j ≤ len2 ∧ j ≤ 3 ∧ Hid (Rw w wx W s d G z r1 lo1 hi1 R1 r2 lo2 hi2 R2) ∧ Hid (DkG w wx d z G (OnP PV) (N + 9000 + 9000 * j))) (fun v _ => 3 - (intOf v).toNat)
            case atStart => exact ⟨0, _, rfl, by omega, by omega, HR3, by show DkG _ _ _ _ _ _ _; simpa using HK3.out⟩
            case round =>
              obtain ⟨j, G, rfl, hj, hj3, HR, HK⟩ := hrel
              clear HR3 HK3
              by_cases hjl : j < len2 ∧ j < 3
              · obtain ⟨hj1, hj2⟩ := hjl
                first | (exfalso; omega) | skip
                all_goals
                  obtain ⟨hb3, hc3, hz0, hz1⟩ := HCU.out j hj1
                  have hcx : wr.cell? ⟨b2, off2 + j, none⟩ = some (.int .u8 (z2.getD j 0)) := (HK.out.below.cell (p := ⟨b2, off2 + j, none⟩) hb3).trans hc3
                  generalize z2.getD j 0 = x at *
                  clear hc3
                  have HRd := Lib.hid (HR.out.made ((Below.refl _ wr).drew))
                  have HKd := Lib.hid (HK.out.made ((Below.refl _ wr).drew))
                  obtain ⟨m0, _⟩ := HRd.out.cells
                  have hcd : wr.drew.cell? ⟨b2, off2 + j, none⟩ = some (.int .u8 x) := hcx
                  have hbx : b2 < wr.heap.size := World.block_lt_of_cell? wr _ hcx
                  have HCT := Lib.hid (cut_g HKd.out (x % 9))
                  have htm : Int.tmod x 9 = x % 9 := Int.tmod_eq_emod_of_nonneg (by omega)
                  have hwrp : IntKind.i64.wrap x = x := IntWalk.i64_in _ (by omega)
                  have HXX : Hid (0 ≤ x % 9 ∧ x % 9 < 9) := ⟨by omega, by omega⟩
                  clear HR HK hcx
                  go_upto_region 20 with fail
                  go_region_held3 (fun w' => w'.cell? ⟨W, 0, none⟩ = some (.pointer (some ⟨d, 0, none⟩)) ∧ w'.cell? ⟨b2, off2 + j, none⟩ = some (.int .u8 x)) (go_keep)
                   (first
                    | (go_at_call 18; refine HCT.out.mono ?_; rintro e w4 ⟨rfl, hK4, hU4⟩
                       have HR4 := Lib.hid (HRd.out.step hU4)
                       have HK4 := Lib.hid hK4
                       have p0 := HR4.out.cells.1
                       have p1 : w4.cell? ⟨b2, off2 + j, none⟩ = some (.int .u8 x) := (HK4.out.below.cell (p := ⟨b2, off2 + j, none⟩) hb3).trans ((HKd.out.below.cell (p := ⟨b2, off2 + j, none⟩) hb3).symm.trans hcd)
                       clear hK4 hU4 HCT))
                  clear m0 hcd p1 HRd HKd
                  have HO4 := Lib.hid (open_g (room := 3) (PV := PV) HG.out (by omega) (by omega) (HK4.out.imp (by
                    rintro E ⟨E0, ⟨h1, h2, V', hV', he⟩, rfl⟩
                    exact ⟨h2, fun _ => by have := HXX.out; exact ⟨this.1, by show x % 9 < _; omega⟩, V', hV', eff_cut he _⟩)) HPC.out (by omega))
                  go_wp2_with fail
                  refine HO4.out.mono ?_
                  rintro e w5 ⟨v, c5, rfl, hK5, hU5⟩
                  have HR5 := Lib.hid (HR4.out.step hU5)
                  have HS5 := Lib.hid (restore_g hK5)
                  have p5 := HR5.out.cells.1
                  clear hK5 hU5 HO4 HR4 HK4 p0
                  go_wp2_with fail
                  refine HS5.out.mono ?_
                  rintro e w6 ⟨rfl, hK6, hU6⟩
                  obtain ⟨G6, HR6, HK6⟩ : ∃ G6, Hid (Rw w w6 W s d G6 z r1 lo1 hi1 R1 r2 lo2 hi2 R2) ∧ Hid (DkG w w6 d z G6 (OnP PV) (N + 9000 + 9000 * ((j + 1 : Nat) : Int))) := ⟨_, HR5.out.step hU6, by
                    rw [show N + 9000 + 9000 * ((j + 1 : Nat) : Int) = N + 9000 + 9000 * (j : Int) + 9000 by push_cast; omega]
                    refine hK6.imp ?_
                    rintro E ⟨E0, ⟨V', hV', he⟩, rfl⟩
                    exact ⟨rfl, rfl, V', hV', eff_restore he⟩⟩
                  clear hK6 hU6 HS5 HR5 p5
                  go_wp2
                  go_roundw
                  case rel => exact ⟨j + 1, _, by go_num, by omega, by omega, HR6, HK6⟩
                  case measure => simp [intOf]; omega
              · have hsplit : (j < len2 ∧ j = 3) ∨ len2 ≤ j := by omega
                rcases hsplit with ⟨hj4, hj5⟩ | hj4
                case' inl => first | (exfalso; omega) | skip
                all_goals
                  have HO := Lib.hid (open_up_g (room := 2) (PV := PV) HG.out (by omega) (by omega) HK.out (by omega))
                  have p0 := HR.out.cells.1
                  clear HK
                  go_wp2_with fail
                  refine HO.out.mono ?_
                  rintro e w4 ⟨s', F4, V', rfl, hPV, hS4, hle4, hU4, hF4⟩
                  rw [HVO.out V' hPV] at hS4
                  obtain ⟨G4, HR4, HF4⟩ : ∃ G4, Hid (Rw w w4 W s d G4 z r1 lo1 hi1 R1 r2 lo2 hi2 R2) ∧ Hid (∀ b, F4 b → G4 b) := ⟨_, HR.out.step hU4, hF4⟩
                  have HPV' := Lib.hid hPV
                  have HS4 := Lib.hid hS4
                  have hsl4 := hS4.slt
                  have HSB : Hid (hi1 ≤ s' ∧ hi2 ≤ s' ∧ W < s' ∧ s' < w4.heap.size) := by
                    have t1 := HR.out.ap1.top
                    have t2 := HR.out.ap2.top
                    have t3 := lt_of HR.out.out.obj
                    exact ⟨by omega, by omega, by omega, hsl4⟩
                  have HNM : Hid ((V' 0).extract 0 8 = spName z) := by
                    have hpv := hPV
                    rw [HPV.out] at hpv
                    rcases hpv with rfl | ⟨_, rfl⟩
                    · exact HP1.out.name
                    · exact HP2.out.name
                  obtain ⟨N4, HN4⟩ : ∃ N4 : Int, Hid (N4 = N + 9000 + 9000 * (j : Int) + 9000) := ⟨_, Lib.hid rfl⟩
                  rw [← HN4.out] at HS4
                  have hN4 : N4 ≤ N + 45000 := by rw [HN4.out]; omega
                  obtain ⟨b1, hb1, hC5⟩ := same_dec HS4.out HR4.out.now HNM.out HP1.out.np HP1.out.nt (HR4.out.sub HF4.out).ap1 (fun b hb => HR4.out.fl b (HF4.out b hb)) (by omega)
                  have HB1 := Lib.hid hb1
                  have HC5 := Lib.hid hC5
                  have p2 := HR4.out.cells.2.2.1
                  clear hPV hS4 hle4 hU4 hF4 HO HR p0 hb1 hC5 HN4
                  go_wp2_with fail
                  refine HC5.out.mono ?_
                  rintro e w5 ⟨rfl, hS5⟩
                  obtain ⟨G5, HR5, F5, HS5, HF5⟩ : ∃ G5, Hid (Rw w w5 W s d G5 z r1 lo1 hi1 R1 r2 lo2 hi2 R2) ∧ ∃ F5, Hid (SIn w w5 s' d F5 z V' V' (N4 + 10000)) ∧ Hid (∀ b, F5 b → G5 b) :=
                    ⟨_, HR4.out.step (hS5.upd.mono fun b _ hb => HF4.out b hb), _, hS5.sin, fun b hb => hb.elim (fun hb => .inl (HF4.out b hb)) .inr⟩
                  have HL5 := Lib.hid hS5.upd.size
                  clear hS5 HC5 HR4 HF4 HS4 p2 hsl4
                  cases b1
                  case' true =>
                    have HRP : Hid (Rep z V' R1) := HB1.out.1 rfl
                    obtain ⟨p0, p1, p2, p3, pf⟩ := HR5.out.cells
                    go_wp2_with fail
                    refine (rcopy_any HR5.out.now).mono ?_
                    rintro e w6 ⟨x, rfl, hB, hx⟩
                    have HR6 := Lib.hid (HR5.out.made hB)
                    have q3 := HR6.out.cells.2.2.2.2 3
                    have q4 := HR6.out.cells.2.2.2.1
                    obtain ⟨rb, lob, hib, Rb, HR8, HRb, HSb⟩ : ∃ rb lob hib Rb, Hid (Rw w (w6.setCell ⟨W, 3, none⟩ (.pointer (some ⟨x, 0, none⟩))) W s d G5 z r1 lo1 hi1 R1 rb lob hib Rb) ∧ Hid (Rep z V' Rb) ∧ Hid (s' < lob ∨ hib ≤ s') :=
                      ⟨_, _, _, _, HR5.out.keep HS5.out.below.size hB hx, HRP.out, .inl HS5.out.slt⟩
                    have HS8 : Hid (SIn w (w6.setCell ⟨W, 3, none⟩ (.pointer (some ⟨x, 0, none⟩))) s' d F5 z V' V' (N4 + 20000)) := ((HS5.out.made hB).setCell HR5.out.nw (fun hx => HR5.out.out.out (HF5.out _ hx)) (by have := HSB.out; omega) _ _).mono (by omega)
                    have HF8 := Lib.hid HF5.out
                    have p0' := HR8.out.cells.1
                    clear hB hx HR5 HS5 HF5 HRP p0 p1 p2 p3 pf HR6
                    go_wp2_with fail
                    clear q3 q4
                    have HR8' := Lib.hid HR8.out
                    have HF8' := Lib.hid HF8.out
                    clear HR8 HF8
                    generalize (w6.setCell ⟨W, 3, none⟩ (.pointer (some ⟨x, 0, none⟩))) = w8 at *
                    obtain ⟨G8, F8, HR8, HS8, HF8⟩ : ∃ G8 F8, Hid (Rw w w8 W s d G8 z r1 lo1 hi1 R1 rb lob hib Rb) ∧ Hid (SIn w w8 s' d F8 z V' V' (N4 + 20000)) ∧ Hid (∀ b, F8 b → G8 b) := ⟨G5, F5, HR8', HS8, HF8'⟩
                    clear p0' HR8' HF8'
                  case' false =>
                    have HCD : Hid (c ≠ 0 ∧ Rep z V' R2) := by
                      have hpv := HPV'.out
                      rw [HPV.out] at hpv
                      rcases hpv with rfl | ⟨hcn, rfl⟩
                      · have := HB1.out.2 HP1.out; cases this
                      · exact ⟨hcn, HP2.out⟩
                    have hcb : (c == 0) = false := by have := HCD.out.1; simpa using this
                    have HSM := Lib.hid (same_any HS5.out HR5.out.was HCD.out.2 (HR5.out.sub HF5.out).ap2 (fun b hb => HR5.out.fl b (HF5.out b hb)) (by omega))
                    obtain ⟨p0, p1, p2, p3, pf⟩ := HR5.out.cells
                    go_wp2_with fail
                    refine HSM.out.mono ?_
                    rintro e w8 ⟨rfl, hS8⟩
                    obtain ⟨G8, F8, HR8, HS8, HF8⟩ : ∃ G8 F8, Hid (Rw w w8 W s d G8 z r1 lo1 hi1 R1 r2 lo2 hi2 R2) ∧ Hid (SIn w w8 s' d F8 z V' V' (N4 + 20000)) ∧ Hid (∀ b, F8 b → G8 b) :=
                      ⟨_, _, HR5.out.step (hS8.upd.mono fun b _ hb => HF5.out b hb), hS8.sin.mono (by omega), fun b hb => hb.elim (fun hb => .inl (HF5.out b hb)) .inr⟩
                    obtain ⟨rb, lob, hib, Rb, HR8', HRb, HSb⟩ : ∃ rb lob hib Rb, Hid (Rw w w8 W s d G8 z r1 lo1 hi1 R1 rb lob hib Rb) ∧ Hid (Rep z V' Rb) ∧ Hid (s' < lob ∨ hib ≤ s') :=
                      ⟨_, _, _, _, HR8, HCD.out.2, .inr (by have := HSB.out; omega)⟩
                    have p0' := HR8'.out.cells.1
                    clear hS8 HSM HR5 HS5 HF5 HCD hcb p0 p1 p2 p3 pf HR8
                    go_wp2_with fail
                    have HR8 := Lib.hid HR8'.out
                    clear p0' HR8'
                  all_goals
                    have HRO := Lib.hid (reopen_g (room := 9) HS8.out (by omega) (by omega) HNM.out (by omega))
                    refine HRO.out.mono ?_
                    rintro e w9 ⟨s9, F9, Fd, rfl, hS9, hU9, hF9, hFd, hFl9, hSh⟩
                    have HU9 := Lib.hid hU9
                    have HFD := Lib.hid hF9
                    have HSH := Lib.hid hSh
                    obtain ⟨G9, HR9, HF9, HG9⟩ : ∃ G9, Hid (Rw w w9 W s d G9 z r1 lo1 hi1 R1 rb lob hib Rb) ∧ Hid (∀ b, F9 b → G9 b) ∧ Hid (∀ b, G8 b → G9 b) := by
                      refine ⟨_, HR8.out.step (hU9.mono fun b _ hb => HF8.out b (hFd b hb)), fun b hb => ?_, fun b hb => .inl hb⟩
                      rcases hF9 b hb with h | h
                      · exact .inl (HF8.out b (hFd b h))
                      · exact .inr ⟨h, hFl9 b hb⟩
                    have HSM := Lib.hid (same_any hS9 HR9.out.was HRb.out (HR9.out.sub HF9.out).ap2 hFl9 (by omega))
                    have p3 := HR9.out.cells.2.2.2.1
                    clear hS9 hU9 hF9 hFd hFl9 hSh HRO
                    go_wp2_with fail
                    refine HSM.out.mono ?_
                    rintro e w10 ⟨rfl, hS10⟩
                    have h89 := HU9.out.size
                    have HR10 := Lib.hid (HR9.out.step (hS10.upd.mono fun b _ hb => HF9.out b hb))
                    have HS10 := Lib.hid (HSH.out w10 _ V' _ hS10.sin (HU9.out.then hS10.upd (fun x hx hf => (HFD.out x hf).elim id (fun h => by omega))) (fun b hb => hb.elim (HFD.out b) (fun h => .inr (by omega))) (by omega))
                    have HF10 : Hid (∀ b, (F8 b ∨ ext F9 w9 w10 b) → ext G9 w9 w10 b) := fun b hb => hb.elim (fun hb => .inl (HG9.out b (HF8.out b hb))) (fun hb => hb.elim (fun hb => .inl (HF9.out b hb)) .inr)
                    obtain ⟨p0, p1, p2, p4, pf⟩ := HR10.out.cells
                    have pf1 := pf 1
                    have HR11 := Lib.hid (HR10.out.turn s')
                    have HS11 := Lib.hid (HS10.out.setCell HR10.out.nw (fun hx => HR10.out.out.out (HF10.out _ hx)) (by have := HSB.out; omega) 1 (.pointer (some ⟨s', 0, none⟩)))
                    have q3 := HR11.out.cells.2.2.2.1
                    clear hS10 HSM p3 HSH HFD HU9 pf p0 p2 p4 HR9 HF9 HG9 HR8 HS8 HF8
                    go_wp2_with fail
                    refine (rcopy_any HR11.out.was).mono ?_
                    rintro e w12 ⟨x2, rfl, hB12, hx2⟩
                    have HR12 := Lib.hid (HR11.out.made hB12)
                    have q2 := HR12.out.cells.2.2.1
                    have qf := HR12.out.cells.2.2.2.2 2
                    have HDW : Hid (DwEx w (w12.setCell ⟨W, 2, none⟩ (.pointer (some ⟨x2, 0, none⟩))) W s' d z (5000 + 100000 * ((k + 1 : Nat) : Int))) := by
                      have hback := HR11.out.back HS11.out.below.size hB12 hx2
                      have hss := (HS11.out.made hB12).setCell (g := W) HR10.out.nw (fun hx => HR10.out.out.out (HF10.out _ hx)) (by have := HSB.out; omega) 2 (.pointer (some ⟨x2, 0, none⟩))
                      have hnn := HN.out
                      exact ⟨_, _, _, _, _, _, _, _, _, _, _, (hback.dw hss HF10.out (.inl HS11.out.slt) HSb.out (by have := HSB.out; omega)).mono (by push_cast; omega), HRb.out, HRb.out⟩
                    clear hB12 hx2 HR10 HS10 HF10 HR11 HS11 q3 p1 pf1 HR12
                    go_wp2
                    go_roundw
                    case rel => exact ⟨k + 1, s', by go_num, by omega, HDW⟩
                    case measure => simp [intOf]; omega
        · have hkb : (kindI kk 10 != 6) = true := by simpa using hk6
          have HX := Lib.hid (HDO.out wr W s d z _ HDk.out kk t tx hw0 hs (by omega))
          clear hbel hc0 hc1 hc2 hs hk6
          generalize kindI kk 10 = kd at *
          go_wp2_with (go_at_call 30; refine (HK.out _).mono ?_; rintro e w' ⟨rfl, rfl⟩)
          refine HX.out.mono ?_
          rintro e w4 ⟨rfl, hD4⟩
          have HD4 := Lib.hid hD4
          clear hD4 HX HDk g0 g1 g2
          go_wp2
          go_roundw
          case rel => exact ⟨k + 1, s, by go_num, by omega, by
            obtain ⟨F, V, D, r1, lo1, hi1, R1, r2, lo2, hi2, R2, hD, hp⟩ := HD4.out
            exact ⟨F, V, D, r1, lo1, hi1, R1, r2, lo2, hi2, R2, hD.mono (by push_cast; omega), hp⟩⟩
          case measure => simp [intOf]; omega
      · obtain rfl : k = len1 := by omega
        obtain ⟨F, V, D, r1, lo1, hi1, R1, r2, lo2, hi2, R2, hD, hp1, hp2⟩ := HDk.out
        have HBF := Lib.hid hD.sin.below
        clear hD hp1 hp2 HDk HDO
        go_wp2
        go_ret
        exact ⟨rfl, HBF.out⟩
end Go.Proofs.YtdoankamaobkoaaGreatDoor
