/- PagerUndo: the walk. -/
import Derived.Test.YtdoankamaobkoaaGreatUndo
import Derived.Test.YtdoankamaobkoaaGreatWake2
import Derived.Deep.RegionWith
set_option linter.unusedSimpArgs false
set_option linter.unusedVariables false
namespace Go.Proofs.YtdoankamaobkoaaGreat
open Go.RowKit Go.Maps Go.Shelf

/-- a slice of acts that came in: each element's number and text -/
def RowActs (w : World) (a : Option Addr) (n : Nat) : Prop :=
  ∀ i, i < n → ∃ (b off : Nat) (k t : Int) (s : ByteArray), a = some ⟨b, off, none⟩ ∧ b < w.heap.size ∧ w.cell? ⟨b, off + i * 3, none⟩ = some (.int .i64 k) ∧ (Lit.int .i64 k).wf = true ∧
    w.cell? ⟨b, off + i * 3 + 1, none⟩ = some (.int .i64 t) ∧ (Lit.int .i64 t).wf = true ∧ w.cell? ⟨b, off + i * 3 + 2, none⟩ = some (.string s) ∧ s.size ≤ 9223372036854775807

theorem page70n {i : Int} (h0 : 37 ≤ i) (h1 : i < 69) : isPage 70 i = true := by
  have key : ∀ k : Nat, k < 32 → isPage 70 (37 + (k : Int)) = true := by decide
  have := key (i - 37).toNat (by omega)
  rwa [show 37 + (((i - 37).toNat : Nat) : Int) = i from by omega] at this

/-- a block that is none of the pager's -/
structure Was (w : World) (G : Nat) (F : Nat → Prop) (row : Obj) : Prop where
  obj : w.heap[G]? = some row
  out : ¬ F G
theorem Was.step {w w' : World} {G : Nat} {F : Nat → Prop} {row : Obj} (h : Was w G F row) (hu : Upd F w w') : Was w' G (ext F w w') row :=
  ⟨(hu.block G (lt_of h.obj) h.out).trans h.obj, fun hx => hx.elim h.out (fun hx => by have := lt_of h.obj; omega)⟩
theorem Was.made {w w' : World} {G : Nat} {F : Nat → Prop} {row : Obj} (h : Was w G F row) (hB : Below w.heap.size w w') : Was w' G F row := ⟨(hB.block G (lt_of h.obj)).trans h.obj, h.out⟩
theorem PIn.lt {w0 w : World} {p d : Nat} {F : Nat → Prop} {S : Pgr} (h : PIn w0 w p d F S) : PIn w0 w p d (fun b => F b ∧ b < w.heap.size) S := ⟨h.pat.lt, fun b hb => h.new b hb.1, h.below⟩

set_option maxRecDepth 100000 in
set_option maxHeartbeats 8000000 in
theorem undo_walk (a1 a2 : Option Addr) (n1 c1 n2 c2 : Nat) (w : World) (h1 : RowActs w a1 n1) (h2 : RowActs w a2 n2) (hn1 : n1 ≤ 9223372036854775807) (hn2 : n2 ≤ 9223372036854775807) :
    Calls Tryz.prog 3 #[.slice a1 n1 c1, .slice a2 n2 c2] w fun e w' => e = .returned (.bool true) ∧ Below w.heap.size w w' := by
  have H1 := Lib.hid h1
  have H2 := Lib.hid h2
  clear h1 h2
  by_cases hl : 1000 < wrap64 ((n1 : Int) + (n2 : Int))
  · go_enter Tryz.func3, Tryz.ntmps3
    go_wp2_with fail
    refine (wakes_any w).mono ?_
    rintro e w1 ⟨rfl, hB1⟩
    have HB1 := Lib.hid hB1
    clear hB1
    go_wp2_with fail
    refine (diskNew_any 70 w1 (by omega) (by omega)).mono ?_
    rintro e w2 ⟨d, bb, rfl, hD, hd, hbb, hB⟩
    have HD := Lib.hid hD; have HB := Lib.hid (HB1.out.trans (hB.mono HB1.out.size))
    have hd' : w.heap.size ≤ d := by have := HB1.out.size; omega
    have hbb' : w.heap.size ≤ bb := by have := HB1.out.size; omega
    clear hD hB hd hbb
    go_wp2_with fail
    refine (new_in 70 4 w w2 HB.out (by omega) (by omega) (by omega) (by omega) d bb HD.out hd' hbb').mono ?_
    rintro e w3 ⟨p, F, rfl, hP⟩
    have HP := Lib.hid hP
    clear hP HD HB HB1
    go_wp2
    go_ret
    exact ⟨rfl, HP.out.below⟩
  · have hl' : wrap64 ((n1 : Int) + (n2 : Int)) ≤ 1000 := by omega
    clear hl
    go_enter Tryz.func3, Tryz.ntmps3
    go_wp2_with fail
    refine (wakes_any w).mono ?_
    rintro e w1 ⟨rfl, hB1⟩
    have HB1 := Lib.hid hB1
    clear hB1
    go_wp2_with fail
    refine (diskNew_any 70 w1 (by omega) (by omega)).mono ?_
    rintro e w2 ⟨d, bb, rfl, hD, hd, hbb, hB⟩
    have HD := Lib.hid hD; have HB := Lib.hid (HB1.out.trans (hB.mono HB1.out.size))
    have hd' : w.heap.size ≤ d := by have := HB1.out.size; omega
    have hbb' : w.heap.size ≤ bb := by have := HB1.out.size; omega
    clear hD hB hd hbb
    go_wp2_with fail
    refine (new_in 70 4 w w2 HB.out (by omega) (by omega) (by omega) (by omega) d bb HD.out hd' hbb').mono ?_
    rintro e w3 ⟨p, F, rfl, hP⟩
    have HP := Lib.hid hP
    have HU := Lib.hid (und_new (n := 70) (room := 4) (by omega) (by omega) (by omega) (by omega))
    clear hP HD HB HB1
    generalize newPgr (newDsk 70) 4 = S0 at *
    go_wp2
    go_loopw [42] (fun i wr => ∃ (k : Nat) (Fk : Nat → Prop) (Sk : Pgr), i = .int .i64 k ∧ k ≤ n1 ∧ Hid (PIn w wr p d Fk Sk) ∧ Hid (Und Sk (newDsk 70) 0)) (fun i _ => n1 - (intOf i).toNat)
    case atStart => exact ⟨0, F, S0, rfl, by omega, HP, HU⟩
    case round =>
      obtain ⟨k, Fk, Sk, rfl, hk, HPk, HUk⟩ := hrel
      by_cases hlt : k < n1
      · obtain ⟨b, off, kd, t, s, rfl, hbl, hc0, hw0, hc1, hw1, hc2, hs⟩ := H1.out k hlt
        have hbel := HPk.out.below
        have hcell1 : wr.cell? ⟨b, off + k * 3 + 1, none⟩ = some (.int .i64 t) := (hbel.cell (p := ⟨b, off + k * 3 + 1, none⟩) hbl).trans hc1
        have hcell2 : wr.cell? ⟨b, off + k * 3 + 2, none⟩ = some (.string s) := (hbel.cell (p := ⟨b, off + k * 3 + 2, none⟩) hbl).trans hc2
        have HPd : Hid (PIn w wr.drew p d Fk Sk) := HPk.out.drewN 1
        have HC5 : Hid (∀ w5, Below wr.drew.heap.size wr.drew w5 → w5.cell? ⟨b, off + k * 3 + 1, none⟩ = some (.int .i64 t) ∧ w5.cell? ⟨b, off + k * 3 + 2, none⟩ = some (.string s)) := by
          intro w5 h5
          have h6 := (hbel.drew).trans (h5.mono (show w.heap.size ≤ wr.drew.heap.size from hbel.size))
          exact ⟨(h6.cell (p := ⟨b, off + k * 3 + 1, none⟩) hbl).trans hc1, (h6.cell (p := ⟨b, off + k * 3 + 2, none⟩) hbl).trans hc2⟩
        have hkd := fun W => kind_any t 30 W hw1 (by omega) (by omega)
        have hkb := kindI_bd (k := t) (n := 30) (by omega)
        obtain ⟨q, HQ⟩ : ∃ q, Hid (kindI t 30 = q) := ⟨_, Lib.hid rfl⟩
        rw [HQ.out] at hkd hkb
        have HKD := Lib.hid hkd
        have HBK := Lib.hid (fun W => block_any s W hs)
        have hw : IntKind.i64.wrap (37 + q) = 37 + q := IntWalk.i64_in _ (by omega)
        have HWF := Lib.hid (wf_small (i := 37 + q) (by omega))
        have HU2 := Lib.hid (HUk.out.store (37 + q) (blockB s))
        have hbs := blockB_size s
        clear hbel hc0 hc1 hc2 hkd HQ HPk HUk
        generalize blockB s = bs at *
        go_wp2
        go_region_with (first
          | (go_at_call 11; refine (HKD.out _).mono ?_; rintro e w' ⟨rfl, rfl⟩)
          | (go_at_call 12; refine (HBK.out _).mono ?_; rintro e w5 ⟨rfl, hB5⟩
             obtain ⟨hk5, hk6⟩ := HC5.out w5 hB5
             have HP5 := Lib.hid (HPd.out.made hB5)
             clear hB5)
          | (go_at_call 10; refine (store_in HP5.out (37 + q) bs HWF.out (by omega)).mono ?_; rintro e w6 ⟨rfl, hP6, _⟩
             have HP6 := Lib.hid hP6
             clear hP6))
        all_goals
          go_wp2
          go_roundw
          case rel => exact ⟨k + 1, _, _, by go_num, by omega, HP6, HU2⟩
          case measure => simp [intOf]; omega
      · obtain rfl : n1 = k := by omega
        obtain ⟨hc1, hc2, hc3⟩ := HUk.out.commit
        have hdisk := HUk.out.disk
        have hlg := commit_log (newDsk 70) Sk.changed
        have hfew : Sk.changed.length ≤ 1024 := by
          have hok := HUk.out.ok
          have hbk := hok.blocks
          have h1 := pages_few (n := Sk.disk.n) (by unfold Dsk.n; omega) (by unfold Dsk.n; omega) hok.srtc (fun q hq => (hok.changed q hq).1)
          have h2 := jPages_bd Sk.disk.n
          omega
        have hlen1 : ((newDsk 70).commit Sk.changed).2.blocks.length = 70 := by rw [((newDsk 70).commit_good Sk.changed).len]; simp [newDsk]
        obtain ⟨D, hD⟩ : ∃ D, D = ((newDsk 70).commit Sk.changed).2 := ⟨_, rfl⟩
        rw [← hD] at hc3 hlg hlen1
        have HLG : Hid (D.log.length < 100000) := by show _ < _; simp [newDsk] at hlg; omega
        have HLEN := Lib.hid hlen1
        have hS := commit_in HPk.out (fun h => by rw [HUk.out.up.told] at h; cases h) (by rw [hdisk]; simp [newDsk]) (by have := HUk.out.clock; omega)
        rw [hc1] at hS
        have HS := Lib.hid hS
        have HC2 := Lib.hid hc2
        have HC3 := Lib.hid hc3
        clear hS hc1 hc2 hc3 hdisk hlg hfew hlen1 hD HPk HUk
        generalize Sk.commit.2 = S1 at *
        go_wp2_with fail
        refine HS.out.mono ?_
        rintro e w4 ⟨rfl, hP, _⟩
        have HP4 := Lib.hid hP.lt
        clear hP HS
        go_wp2_with fail
        refine (image_in HP4.out).mono ?_
        rintro e w5 ⟨G, rfl, hG, hGs, hP, hB5⟩
        have hdk := HC3.out.disk
        rw [hdk] at hG
        rw [hdk, HLEN.out]
        obtain ⟨row, HROW⟩ : ∃ row, Hid (row = Obj.cells (D.blocks.map Value.string).toArray 9 (0, 0)) := ⟨_, Lib.hid rfl⟩
        rw [← HROW.out] at hG
        have HW5 : Hid (Was w5 G (fun b => ext Fk wr w4 b ∧ b < w4.heap.size) row) := ⟨hG, fun hx => by omega⟩
        have HP5 := Lib.hid hP
        clear hG hGs hP hB5 HP4 hdk
        generalize (fun b => ext Fk wr w4 b ∧ b < w4.heap.size) = F5 at *
        go_wp2
        go_loopw [68] (fun i wr => ∃ (k : Nat) (Fk : Nat → Prop) (Sk : Pgr), i = .int .i64 k ∧ k ≤ n2 ∧ Hid (PIn w wr p d Fk Sk) ∧ Hid (Und Sk D (0 + 1024)) ∧ Hid (Was wr G Fk row)) (fun i _ => n2 - (intOf i).toNat)
        case atStart => exact ⟨0, F5, S1, rfl, by omega, HP5, HC3, HW5⟩
        case round =>
          obtain ⟨k, Fk, Sk, rfl, hk, HPk, HUk, HWk⟩ := hrel
          clear HP5 HC3 HW5
          by_cases hlt : k < n2
          · skip
            obtain ⟨b, off, kd, t, s, rfl, hbl, hc0, hw0, hc1, hw1, hc2, hs⟩ := H2.out k hlt
            have hbel := HPk.out.below
            have hcell1 : wr.cell? ⟨b, off + k * 3 + 1, none⟩ = some (.int .i64 t) := (hbel.cell (p := ⟨b, off + k * 3 + 1, none⟩) hbl).trans hc1
            have hcell2 : wr.cell? ⟨b, off + k * 3 + 2, none⟩ = some (.string s) := (hbel.cell (p := ⟨b, off + k * 3 + 2, none⟩) hbl).trans hc2
            have HPd : Hid (PIn w wr.drew p d Fk Sk) := HPk.out.drewN 1
            have HC5 : Hid (∀ w5, Below wr.drew.heap.size wr.drew w5 → w5.cell? ⟨b, off + k * 3 + 1, none⟩ = some (.int .i64 t) ∧ w5.cell? ⟨b, off + k * 3 + 2, none⟩ = some (.string s)) := by
              intro w5 h5
              have h6 := (hbel.drew).trans (h5.mono (show w.heap.size ≤ wr.drew.heap.size from hbel.size))
              exact ⟨(h6.cell (p := ⟨b, off + k * 3 + 1, none⟩) hbl).trans hc1, (h6.cell (p := ⟨b, off + k * 3 + 2, none⟩) hbl).trans hc2⟩
            have hkd := fun W => kind_any t 30 W hw1 (by omega) (by omega)
            have hkb := kindI_bd (k := t) (n := 30) (by omega)
            obtain ⟨q, HQ⟩ : ∃ q, Hid (kindI t 30 = q) := ⟨_, Lib.hid rfl⟩
            rw [HQ.out] at hkd hkb
            have HKD := Lib.hid hkd
            have HBK := Lib.hid (fun W => block_any s W hs)
            have hw : IntKind.i64.wrap (37 + q) = 37 + q := IntWalk.i64_in _ (by omega)
            have HWF := Lib.hid (wf_small (i := 37 + q) (by omega))
            have HU2 := Lib.hid (HUk.out.store (37 + q) (blockB s))
            have hbs := blockB_size s
            clear hbel hc0 hc1 hc2 hkd HQ HPk HUk
            have HWd := Lib.hid (HWk.out.made ((Below.refl _ wr).drew))
            clear HWk
            generalize blockB s = bs at *
            go_wp2
            go_region_with (first
              | (go_at_call 11; refine (HKD.out _).mono ?_; rintro e w' ⟨rfl, rfl⟩)
              | (go_at_call 12; refine (HBK.out _).mono ?_; rintro e w5 ⟨rfl, hB5⟩
                 obtain ⟨hk5, hk6⟩ := HC5.out w5 hB5
                 have HP5 := Lib.hid (HPd.out.made hB5)
                 have HW5 := Lib.hid (HWd.out.made hB5)
                 clear hB5)
              | (go_at_call 10; refine (store_in HP5.out (37 + q) bs HWF.out (by omega)).mono ?_; rintro e w6 ⟨rfl, hP6, hU6⟩
                 have HW6 := Lib.hid (HW5.out.step hU6)
                 have HP6 := Lib.hid hP6
                 clear hP6 hU6))
            all_goals
              go_wp2
              go_roundw
              case rel => exact ⟨k + 1, _, _, by go_num, by omega, HP6, HU2, HW6⟩
              case measure => simp [intOf]; omega
          · obtain rfl : n2 = k := by omega
            have HW := HROW.out
            go_wp2_with fail
            refine (undo_in HPk.out).mono ?_
            rintro e w6 ⟨rfl, hP, hU⟩
            have HP6 := Lib.hid hP
            have HU6 := Lib.hid HUk.out.undo
            have HC6 : Hid (Sk.undo.changed = []) := rfl
            have HW6 := Lib.hid (HWk.out.step hU)
            clear hP hU HPk HUk HWk HW
            generalize Sk.undo = S6 at *
            generalize ext Fk wr w6 = F6 at *
            go_wp2
            go_loopw [12] (fun i wr => ∃ (k : Nat) (Fk : Nat → Prop) (Sk : Pgr), i = .int .i64 (37 + k) ∧ k ≤ 30 ∧ Hid (PIn w wr p d Fk Sk) ∧ Hid (Und Sk D (0 + 1024 + k)) ∧ Hid (Sk.changed = []) ∧ Hid (Was wr G Fk row)) (fun i _ => 67 - (intOf i).toNat)
            case atStart => exact ⟨0, F6, S6, rfl, by omega, HP6, by show Und _ _ _; simpa using HU6.out, HC6, HW6⟩
            case round =>
              obtain ⟨k, Fk, Sk, rfl, hk, HPk, HUk, HCk, HWk⟩ := hrel
              clear HP6 HU6 HC6 HW6
              have hDn : D.n = 70 := by unfold Dsk.n; rw [HLEN.out]; rfl
              by_cases hlt : k < 30
              · obtain ⟨l1, l2, l3⟩ := HUk.out.load HCk.out (i := 37 + (k : Int)) (by rw [hDn]; exact page70n (by omega) (by omega)) (by rw [hDn]; omega)
                have hS := load_in HPk.out (37 + (k : Int)) (wf_small (by omega)) (by have := HUk.out.clock; omega) (by have := HUk.out.reads; omega)
                rw [l1] at hS
                have HS := Lib.hid hS
                have L2 := Lib.hid l2
                have L3 := Lib.hid l3
                have hcell : ∀ w7 : World, w7.heap[G]? = some row → w7.cell? ⟨G, 37 + k, none⟩ = some (.string (D.blk (37 + (k : Int)))) := by
                  intro w7 h7
                  rw [HROW.out] at h7
                  rw [cell_of h7]
                  have hkl : 37 + k < D.blocks.length := by rw [HLEN.out]; omega
                  simp only [Dsk.blk, show (37 + (k : Int)).toNat = 37 + k by omega]
                  simp [hkl]
                have HCELL := Lib.hid hcell
                clear l1 l2 l3 hS hcell hDn
                generalize D.blk (37 + (k : Int)) = x at *
                generalize (Sk.load (37 + (k : Int))).2 = S7 at *
                go_wp2_with fail
                refine HS.out.mono ?_
                rintro e w7 ⟨rfl, hP, hU⟩
                have HW7 := Lib.hid (HWk.out.step hU)
                have c7 := HCELL.out w7 HW7.out.obj
                have HP7 := Lib.hid hP
                clear hP hU HS HCELL HPk HUk HCk HWk
                go_wp2
                go_roundw
                case rel => exact ⟨k + 1, _, _, by go_num, by omega, HP7, by show Und _ _ _; have := L3.out; rw [show (0 : Int) + 1024 + ((k + 1 : Nat) : Int) = 0 + 1024 + k + 1 by omega]; exact this, L2, HW7⟩
                case measure => simp [intOf]; omega
              · obtain rfl : k = 30 := by omega
                have hch := HCk.out
                obtain ⟨hc1, hc2, hc3⟩ := HUk.out.commit
                rw [hch, commit_none (by omega) (by omega)] at hc3
                have hS1 := dirty_in HPk.out
                rw [show Sk.changed.length = 0 by rw [hch]; rfl] at hS1
                have HS1 := Lib.hid hS1
                have HS2 : Hid (∀ w8, PIn w w8 p d Fk Sk → Calls Tryz.prog 13 #[.pointer (some ⟨p, 0, none⟩)] w8 fun e w' => e = .returned (.int .i64 0) ∧ PIn w w' p d (ext Fk w8 w') Sk.commit.2 ∧ Upd Fk w8 w') := by
                  intro w8 h8
                  have := commit_in h8 (fun h => by rw [HUk.out.up.told] at h; cases h) (by rw [HUk.out.disk]; have := HLG.out; omega) (by have := HUk.out.clock; omega)
                  rwa [hc1] at this
                have HC3 := Lib.hid hc3
                clear hch hc1 hc2 hc3 hS1 hDn HPk HUk HCk
                generalize Sk.commit.2 = S8 at *
                go_wp2_with fail
                refine HS1.out.mono ?_
                rintro e w8 ⟨ad, cd, rfl, _, hP, hB⟩
                have HP8 := Lib.hid hP
                have HW8 := Lib.hid (HWk.out.made hB)
                clear hP hB HS1 HWk
                go_wp2_with fail
                refine (HS2.out w8 HP8.out).mono ?_
                rintro e w9 ⟨rfl, hP, hU⟩
                have HP9 := Lib.hid hP
                have HW9 := Lib.hid (HW8.out.step hU)
                clear hP hU HS2 HP8 HW8
                go_wp2_with fail
                refine (image_in HP9.out).mono ?_
                rintro e w10 ⟨G2, rfl, hG, _, hP, hB⟩
                have hdk := HC3.out.disk
                rw [hdk] at hG
                rw [hdk]
                have hW10 := (HW9.out.made hB).obj
                rw [HROW.out] at hW10
                have HSM := Lib.hid (same_any w10 G2 G D.blocks.length 70 D.blocks D.blocks (by rw [HLEN.out]; omega) hG hW10)
                have hsm := HSM.out
                rw [HLEN.out] at hsm
                rw [show decide (D.blocks = D.blocks) = true by simp] at hsm
                have HSM2 := Lib.hid hsm
                have HB10 := Lib.hid hP.below
                rw [HLEN.out]
                clear hG hP hB hdk hW10 hsm HSM HP9 HW9 HC3
                go_wp2_with fail
                refine HSM2.out.mono ?_
                rintro e w11 ⟨rfl, hB⟩
                have HB11 := Lib.hid (HB10.out.trans (hB.mono HB10.out.size))
                clear hB HSM2
                go_wp2
                go_ret
                exact ⟨rfl, HB11.out⟩
end Go.Proofs.YtdoankamaobkoaaGreat
