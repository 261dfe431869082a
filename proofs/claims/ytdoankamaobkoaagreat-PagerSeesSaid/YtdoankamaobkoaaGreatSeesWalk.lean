/- PagerSees: the walk. -/
import Derived.Test.YtdoankamaobkoaaGreatSees
import Derived.Test.YtdoankamaobkoaaGreatUndoWalk
import Derived.Deep.RegionWith
import Derived.Deep.DeepCutAuto
import Derived.Deep.CutBlock
set_option linter.unusedSimpArgs false
set_option linter.unusedVariables false
namespace Go.Proofs.YtdoankamaobkoaaGreat
open Go.RowKit Go.Maps Go.Shelf

/-- the row of the texts that are stored -/
def stRow (l : Pgs) : Obj := .cells ((storedL l).map Value.string).toArray 9 (0, 0)
/-- block G holds the texts that are stored; it is none of the pager's -/
structure St (w0 w : World) (G : Nat) (F : Nat → Prop) (l : Pgs) : Prop where
  was : Was w G F (stRow l)
  new : w0.heap.size ≤ G
theorem St.step {w0 w w' : World} {G : Nat} {F : Nat → Prop} {l : Pgs} (h : St w0 w G F l) (hu : Upd F w w') : St w0 w' G (ext F w w') l := ⟨h.was.step hu, h.new⟩
theorem St.made {w0 w w' : World} {G : Nat} {F : Nat → Prop} {l : Pgs} (h : St w0 w G F l) (hB : Below w.heap.size w w') : St w0 w' G F l := ⟨h.was.made hB, h.new⟩
theorem St.cell {w0 w : World} {G : Nat} {F : Nat → Prop} {l : Pgs} (h : St w0 w G F l) {k : Nat} (hk : k < 70) : w.cell? ⟨G, k, none⟩ = some (.string ((get (k : Int) l).getD ⟨#[]⟩)) := by
  rw [cell_of h.was.obj]
  simp only [List.getElem?_toArray, List.getElem?_map, storedL_at l hk]; rfl
theorem St.frozen {w0 w : World} {G : Nat} {F : Nat → Prop} {l : Pgs} (h : St w0 w G F l) (k : Nat) : w.frozen? ⟨G, k, none⟩ = false := frozen_of h.was.obj k
theorem St.set {w0 w : World} {G : Nat} {F : Nat → Prop} {l : Pgs} (h : St w0 w G F l) {k : Nat} (hk : k < 70) (s : ByteArray) : St w0 (w.setCell ⟨G, k, none⟩ (.string s)) G F (ins (k : Int) s l) := by
  refine ⟨⟨?_, h.was.out⟩, h.new⟩
  rw [heap_setCell_same h.was.obj]
  unfold stRow
  rw [storedL_ins l hk]
  congr 2
  apply Array.ext'
  simp [List.map_set]
theorem PIn.setCell {w0 w : World} {p d G : Nat} {F : Nat → Prop} {S : Pgr} (h : PIn w0 w p d F S) (hn : w0.heap.size ≤ G) (ho : ¬ F G) (i : Nat) (v : Value) : PIn w0 (w.setCell ⟨G, i, none⟩ v) p d F S :=
  ⟨h.pat.upd (G := fun b => b = G) (Upd.setCell (F := fun b => b = G) (Upd.refl _ w) ⟨G, i, none⟩ (fun _ => rfl) v) (fun b hb e => ho (e ▸ hb)), h.new, h.below.setCell hn v⟩

theorem make_stored (W : World) : (Instr.makeSlice 37 (.int .i64 70) (.int .i64 70)).run Tryz.prog W = .ok (.slice (some ⟨W.heap.size, 0, none⟩) 70 70) (W.alloc (stRow [])) := by
  obtain ⟨i0, hi, hz0, hz1, hz2⟩ := info_parts info_str
  have hmk := run_make (P := Tryz.prog) W 37 9 i0 (.string ⟨#[]⟩) Tryz.underlying37 hi hz0 .i64 .i64 70 70 (by omega) (Int.le_refl _) (by rw [hz2]; omega) (by omega)
  rw [hz1, Nat.mul_one] at hmk
  rw [hmk]
  have e : madeCells (Value.string ⟨#[]⟩).cells (70 : Int).toNat = ((storedL []).map Value.string).toArray := by
    apply Array.ext_getElem?
    intro j
    rw [storedL_nil]
    by_cases hj : j < 70
    · rw [made_get _ _ _ rfl (by omega), List.getElem?_toArray, List.getElem?_map, List.getElem?_replicate, if_pos hj]; rfl
    · have hs : (madeCells (Value.string ⟨#[]⟩).cells (70 : Int).toNat).size = 70 := by rw [size_madeCells]; rfl
      rw [Array.getElem?_eq_none (by omega), Array.getElem?_eq_none (by simp; omega)]
  rw [e]; rfl
theorem St.fresh {w0 w : World} {p d : Nat} {F : Nat → Prop} {S : Pgr} (h : PIn w0 w p d F S) : PIn w0 (w.alloc (stRow [])) p d (fun b => F b ∧ b < w.heap.size) S ∧ St w0 (w.alloc (stRow [])) w.heap.size (fun b => F b ∧ b < w.heap.size) [] :=
  ⟨h.lt.alloc _, ⟨⟨heap_alloc_new' _ _, fun hx => by omega⟩, h.below.size⟩⟩
theorem drewN_below (w : World) (k : Nat) : Below w.heap.size w (w.drewN k) := ⟨rfl, rfl, rfl, Nat.le_refl _, fun _ _ => rfl⟩
theorem full_text {x : ByteArray} (h : x.size = 256) : x.toList.isEmpty = false := by
  rw [ByteArray.toList_eq]
  cases hx : x.data.toList with
  | nil => exfalso; have : x.size = 0 := by show x.data.size = 0; rw [← Array.length_toList, hx]; rfl
           omega
  | cons a r => rfl
theorem row_cell {w : World} {base : Nat} {T : TypeId} {v : Value} {n : Nat} {xs : List Value} (h : w.ownsRow base T 1 v n xs) :
    ∃ a cap, v = .slice a n cap ∧ ∀ i, i < n → ∃ g, a = some ⟨g, 0, none⟩ ∧ g < w.heap.size ∧ w.cell? ⟨g, i, none⟩ = xs[i]? := by
  rcases h.2 with ⟨rfl, rfl⟩ | ⟨g, cap, cur, rfl, _, hg, _⟩
  · exact ⟨none, 0, rfl, fun i hi => by omega⟩
  · exact ⟨_, cap, rfl, fun i hi => ⟨g, rfl, lt_of hg, h.cellAt i (by omega)⟩⟩

set_option maxRecDepth 100000 in
set_option maxHeartbeats 8000000 in
theorem sees_walk (a0 : Int) (a1 : Option Addr) (n1 c1 : Nat) (w : World) (w0 : (Lit.int .u8 a0).wf = true) (h1 : RowActs w a1 n1) (hn1 : n1 ≤ 9223372036854775807) :
    Calls Tryz.prog 5 #[.int .u8 a0, .slice a1 n1 c1] w fun e w' => e = .returned (.bool true) ∧ Below w.heap.size w w' := by
  have H1 := Lib.hid h1
  clear h1
  obtain ⟨b0, b1⟩ := u8_bd w0
  clear w0
  have hr1 : 1 ≤ 1 + a0 % 20 := by omega
  have hr2 : 1 + a0 % 20 ≤ 20 := by omega
  by_cases hl : 1000 < (n1 : Int)
  · go_enter Tryz.func5, Tryz.ntmps5
    go_wp2_with fail
    refine (wakes_any w).mono ?_
    rintro e w1 ⟨rfl, hB1⟩
    have HB1 := Lib.hid hB1
    clear hB1
    go_wp2_with fail
    refine (diskNew_any 70 w1 (by omega) (by omega)).mono ?_
    rintro e w2 ⟨d, bb, rfl, hD, hd, hbb, hB⟩
    have HD := Lib.hid hD; have HB := Lib.hid (HB1.out.trans (hB.mono HB1.out.size))
    have hd' : w.heap.size ≤ d := by have := HB1.out.size; omega
    have hbb' : w.heap.size ≤ bb := by have := HB1.out.size; omega
    clear hD hB hd hbb
    go_wp2_with fail
    refine (new_in 70 _ w w2 HB.out (by omega) (by omega) hr1 (by omega) d bb HD.out hd' hbb').mono ?_
    rintro e w3 ⟨p, F, rfl, hP⟩
    have HP := Lib.hid hP
    clear hP HD HB HB1
    go_wp2
    go_ret
    exact ⟨rfl, HP.out.below⟩
  · have hl' : n1 ≤ 1000 := by omega
    clear hl
    go_enter Tryz.func5, Tryz.ntmps5
    go_wp2_with fail
    refine (wakes_any w).mono ?_
    rintro e w1 ⟨rfl, hB1⟩
    have HB1 := Lib.hid hB1
    clear hB1
    go_wp2_with fail
    refine (diskNew_any 70 w1 (by omega) (by omega)).mono ?_
    rintro e w2 ⟨d, bb, rfl, hD, hd, hbb, hB⟩
    have HD := Lib.hid hD; have HB := Lib.hid (HB1.out.trans (hB.mono HB1.out.size))
    have hd' : w.heap.size ≤ d := by have := HB1.out.size; omega
    have hbb' : w.heap.size ≤ bb := by have := HB1.out.size; omega
    clear hD hB hd hbb
    go_wp2_with fail
    refine (new_in 70 _ w w2 HB.out (by omega) (by omega) hr1 (by omega) d bb HD.out hd' hbb').mono ?_
    rintro e w3 ⟨p, F, rfl, hP⟩
    have HP := Lib.hid hP
    have HS := Lib.hid (sees_new (room := 1 + a0 % 20) hr1 (by omega)).1
    have HC0 : Hid ((newPgr (newDsk 70) (1 + a0 % 20)).changed = []) := rfl
    clear hP HD HB HB1
    generalize 1 + a0 % 20 = most at *
    generalize newPgr (newDsk 70) most = S0 at *
    obtain ⟨hPs, hSs⟩ := St.fresh HP.out
    have HPs := Lib.hid hPs
    have HSs := Lib.hid hSs
    have hmk := make_stored w3
    have hS0c : S0.changed = [] := HC0.out
    have HS0c := Lib.hid hS0c
    clear hPs hSs hS0c HP
    generalize w3.alloc (stRow []) = w4 at *
    generalize w3.heap.size = G at *
    generalize hFl : (fun b => F b ∧ b < G) = F4 at *
    clear hFl
    go_wp2
    clear hmk
    go_loopw [10, 51] (fun st i wr => ∃ (k G : Nat) (Fk : Nat → Prop) (Sk : Pgr), st = .slice (some ⟨G, 0, none⟩) 70 70 ∧ i = .int .i64 k ∧ k ≤ n1 ∧ Hid (PIn w wr p d Fk Sk) ∧ Hid (Sees Sk 70 most k (k * 5000)) ∧ Hid (St w wr G Fk Sk.changed)) (fun _ i _ => n1 - (intOf i).toNat)
    case atStart => exact ⟨0, G, F4, S0, rfl, rfl, by omega, HPs, Lib.hid (by simpa using HS.out), Lib.hid (by rw [HS0c.out]; exact HSs.out)⟩
    case round =>
      obtain ⟨k, G, Fk, Sk, rfl, rfl, hk, HPk, HSk, HTk⟩ := hrel
      by_cases hlt : k < n1
      · obtain ⟨b, off, kd, t, s, rfl, hbl, hc0, hw0, hc1, hw1, hc2, hs⟩ := H1.out k hlt
        have hbel := HPk.out.below
        have hcell0 : wr.cell? ⟨b, off + k * 3, none⟩ = some (.int .i64 kd) := (hbel.cell (p := ⟨b, off + k * 3, none⟩) hbl).trans hc0
        have hcell1 : wr.cell? ⟨b, off + k * 3 + 1, none⟩ = some (.int .i64 t) := (hbel.cell (p := ⟨b, off + k * 3 + 1, none⟩) hbl).trans hc1
        have hcell2 : wr.cell? ⟨b, off + k * 3 + 2, none⟩ = some (.string s) := (hbel.cell (p := ⟨b, off + k * 3 + 2, none⟩) hbl).trans hc2
        obtain ⟨j, HJ⟩ : ∃ j : Nat, Hid (kindI t 32 = j) := ⟨(kindI t 32).toNat, by have := kindI_bd (k := t) (n := 32) (by omega); show _ = _; omega⟩
        have hj32 : j < 32 := by have := kindI_bd (k := t) (n := 32) (by omega); have := HJ.out; omega
        obtain ⟨q, HQ⟩ : ∃ q, Hid (kindI kd 7 = q) := ⟨_, Lib.hid rfl⟩
        have hq7 : 0 ≤ q ∧ q < 7 := by have := kindI_bd (k := kd) (n := 7) (by omega); have := HQ.out; omega
        have hk1 := fun W => kind_any t 32 W hw1 (by omega) (by omega)
        have hk2 := fun W => kind_any kd 7 W hw0 (by omega) (by omega)
        rw [HJ.out] at hk1
        rw [HQ.out] at hk2
        have HK1 := Lib.hid hk1
        have HK2 := Lib.hid hk2
        have HBK := Lib.hid (fun W => block_any s W hs)
        have hbs := blockB_size s
        clear hbel hc0 hc1 hc2 hk1 hk2 HJ HQ hw0 hw1 hs
        generalize blockB s = bs at *
        have HPA : Hid (PIn w (wr.alloc (.cells #[.int .i64 kd, .int .i64 t, .string s] 34)) p d (fun b => Fk b ∧ b < wr.heap.size) Sk) := HPk.out.lt.alloc _
        have HTA : Hid (St w (wr.alloc (.cells #[.int .i64 kd, .int .i64 t, .string s] 34)) G (fun b => Fk b ∧ b < wr.heap.size) Sk.changed) :=
          (show St w wr G (fun b => Fk b ∧ b < wr.heap.size) Sk.changed from ⟨⟨HTk.out.was.obj, fun hx => HTk.out.was.out hx.1⟩, HTk.out.new⟩).made ((Below.refl _ wr).alloc (Nat.le_refl _) _)
        have HNA : Hid (¬ (fun b => Fk b ∧ b < wr.heap.size) wr.heap.size) := fun hx => by omega
        have HCA : Hid ((wr.alloc (.cells #[.int .i64 kd, .int .i64 t, .string s] 34)).cell? ⟨wr.heap.size, 2, none⟩ = some (.string s) ∧ wr.heap.size < (wr.alloc (.cells #[.int .i64 kd, .int .i64 t, .string s] 34)).heap.size) := ⟨by rw [cell_new]; rfl, by simp⟩
        clear HPk HTk
        generalize hF1 : (fun b => Fk b ∧ b < wr.heap.size) = F1 at *
        clear hF1
        go_upto_block 2 with (first
          | (go_at_call 11; refine (HK1.out _).mono ?_; rintro e w' ⟨rfl, rfl⟩)
          | (go_at_call 11; refine (HK2.out _).mono ?_; rintro e w' ⟨rfl, rfl⟩))
        generalize wr.alloc (.cells #[.int .i64 kd, .int .i64 t, .string s] 34) = wa at *
        generalize wr.heap.size = ga at *
        go_cut [10, 14, 15, 16] (fun st _ _ _ wx => ∃ (G' : Nat) (F' : Nat → Prop) (S' : Pgr), st = .slice (some ⟨G', 0, none⟩) 70 70 ∧ Hid (PIn w wx p d F' S') ∧ Hid (Sees S' 70 most (k + 1) (k * 5000 + 4500)) ∧ Hid (St w wx G' F' S'.changed))
        case first =>
          have hck := HSk.out.clock
          have hrd := HSk.out.reads
          have hpg : isPage 70 (37 + (j : Int)) = true := page70n (by omega) (by omega)
          rcases (show (q = 0 ∨ q = 1) ∨ (q = 2 ∨ q = 3) ∨ q = 4 ∨ q = 5 ∨ q = 6 by omega) with h | h | rfl | rfl | rfl
          · obtain ⟨l1, l2, l3, l4⟩ := HSk.out.load (i := 37 + (j : Int)) (by omega) hpg (by omega) (by omega)
            have hS := load_in HPA.out (37 + (j : Int)) (wf_small (by omega)) (by omega) (by omega)
            rw [l1] at hS
            have hcl := fun w7 F7 (h : St w w7 G F7 Sk.changed) => h.cell (k := 37 + j) (by omega)
            rw [show ((37 + j : Nat) : Int) = 37 + (j : Int) by omega] at hcl
            have HL2 := Lib.hid l2
            have HL4 := Lib.hid l4
            cases hg : get (37 + (j : Int)) Sk.changed with
            | some x =>
              rw [hg] at hS hcl
              simp only [Option.getD_some] at hS hcl
              have hx256 : x.size = 256 := (HPA.out.ok.changed _ (get_mem hg)).2
              have hxe : x.toList.isEmpty = false := full_text hx256
              have HS7 := Lib.hid hS
              have HCL := Lib.hid hcl
              clear l1 l2 l3 l4 hS hcl hg hck hrd hx256
              generalize (Sk.load (37 + (j : Int))).2 = S7 at *
              rcases h with rfl | rfl
              all_goals
                go_wp2_with fail
                refine HS7.out.mono ?_
                rintro e w7 ⟨rfl, hP7, hU7⟩
                have HP7 := Lib.hid hP7
                have HT7 := Lib.hid (HTA.out.step hU7)
                have c7 := HCL.out _ _ HT7.out
                clear hP7 hU7 HS7 HCL
                go_wp2_with fail
                go_meet
                exact ⟨G, _, S7, rfl, HP7, Lib.hid ((HL4.out.pinned (by omega)).mono (by omega)), Lib.hid (by rw [HL2.out]; exact HT7.out)⟩
            | none =>
              rw [hg] at hS hcl
              simp only [Option.getD_none] at hS hcl
              have HIM : Hid (∀ w7 F7, PIn w w7 p d F7 (Sk.load (37 + (j : Int))).2 → Calls Tryz.prog 14 #[.pointer (some ⟨d, 0, none⟩)] w7 fun e w8 => ∃ G2, e = .returned (.slice (some ⟨G2, 0, none⟩) 70 70) ∧ w8.cell? ⟨G2, 37 + j, none⟩ = some (.string (Sk.disk.blk (37 + (j : Int)))) ∧ PIn w w8 p d F7 (Sk.load (37 + (j : Int))).2 ∧ Below w7.heap.size w7 w8) := fun w7 F7 h7 => by
                have hlen : (Sk.load (37 + (j : Int))).2.disk.blocks.length = 70 := by
                  have := HL4.out.n; unfold Dsk.n at this; omega
                refine (image_in h7).mono ?_
                rintro e w8 ⟨G2, he, hG2, _, hP8, hB8⟩
                rw [hlen] at he
                refine ⟨G2, he, ?_, hP8, hB8⟩
                rw [cell_of hG2, l3]
                rw [l3] at hlen
                have hkl : 37 + j < Sk.disk.blocks.length := by omega
                simp only [Dsk.blk, show (37 + (j : Int)).toNat = 37 + j by omega]
                simp [hkl]
              have HS7 := Lib.hid hS
              have HCL := Lib.hid hcl
              clear l1 l2 l3 l4 hS hcl hg hck hrd
              generalize (Sk.load (37 + (j : Int))).2 = S7 at *
              generalize Sk.disk.blk (37 + (j : Int)) = y at *
              rcases h with rfl | rfl
              all_goals
                go_wp2_with fail
                refine HS7.out.mono ?_
                rintro e w7 ⟨rfl, hP7, hU7⟩
                have HP7 := Lib.hid hP7
                have HT7 := Lib.hid (HTA.out.step hU7)
                have c7 := HCL.out _ _ HT7.out
                have HI7 := Lib.hid (HIM.out _ _ hP7)
                clear hP7 hU7 HS7 HCL HIM
                go_wp2_with fail
                refine HI7.out.mono ?_
                rintro e w8 ⟨G2, rfl, c8, hP8, hB8⟩
                have HP8 := Lib.hid hP8
                have HT8 := Lib.hid (HT7.out.made hB8)
                clear hP8 hB8 HI7 c7
                go_wp2_with fail
                go_meet
                exact ⟨G, _, S7, rfl, HP8, Lib.hid ((HL4.out.pinned (by omega)).mono (by omega)), Lib.hid (by rw [HL2.out]; exact HT8.out)⟩
          · have HWF := Lib.hid (wf_small (i := 37 + (j : Int)) (by omega))
            have HSS := Lib.hid (HSk.out.store (i := 37 + (j : Int)) bs)
            have HBA := Lib.hid (HBK.out wa)
            have HBS := Lib.hid hbs
            have HJE : Hid (((37 + j : Nat) : Int) = 37 + (j : Int)) := by show _ = _; omega
            have c2a := HCA.out.1
            rcases store_ways Sk (37 + (j : Int)) bs with ⟨h0, hch⟩ | ⟨h1, hch⟩
            · have HCH := Lib.hid hch
              have HST : Hid (∀ w5, PIn w w5 p d F1 Sk → Calls Tryz.prog 10 #[.pointer (some ⟨p, 0, none⟩), .int .i64 (37 + (j : Int)), .string bs] w5 fun e w6 => e = .returned (.int .i64 0) ∧ PIn w w6 p d (ext F1 w5 w6) (Sk.store (37 + (j : Int)) bs).2 ∧ Upd F1 w5 w6) := fun w5 h5 => by
                have := store_in h5 (37 + (j : Int)) bs HWF.out (by have := HBS.out; omega)
                rwa [h0] at this
              clear h0 hch hck hrd hpg hbs
              generalize (Sk.store (37 + (j : Int)) bs).2 = S6 at *
              rcases h with rfl | rfl
              all_goals
                go_wp2_with fail
                refine HBA.out.mono ?_
                rintro e w5 ⟨rfl, hB5⟩
                have HP5 := Lib.hid (HPA.out.made hB5)
                have HT5 := Lib.hid (HTA.out.made hB5)
                have HC5 : Hid (w5.cell? ⟨ga, 2, none⟩ = some (.string s) ∧ ga < w5.heap.size) := ⟨(hB5.cell (p := ⟨ga, 2, none⟩) HCA.out.2).trans HCA.out.1, by have := HCA.out.2; have := hB5.size; omega⟩
                have HST5 := Lib.hid (HST.out w5 HP5.out)
                clear hB5 HBA HST c2a
                go_wp2_with fail
                refine HST5.out.mono ?_
                rintro e w6 ⟨rfl, hP6, hU6⟩
                have HP6 := Lib.hid hP6
                have HT6 := Lib.hid (HT5.out.step hU6)
                have c6 : w6.cell? ⟨ga, 2, none⟩ = some (.string s) := (hU6.cell (p := ⟨ga, 2, none⟩) HC5.out.2 HNA.out).trans HC5.out.1
                have HB6 := Lib.hid (HBK.out w6)
                clear hP6 hU6 HST5
                go_wp2_with fail
                refine HB6.out.mono ?_
                rintro e w7 ⟨rfl, hB7⟩
                have HP7 := Lib.hid (HP6.out.made hB7)
                have HT7 := Lib.hid (HT6.out.made hB7)
                have c7 := HT7.out.cell (k := 37 + j) (by omega)
                have f7 := HT7.out.frozen (37 + j)
                clear hB7 HB6 c6
                go_wp2_with fail
                go_meet
                exact ⟨G, _, S6, rfl, Lib.hid (HP7.out.setCell HT7.out.new HT7.out.was.out _ _), Lib.hid ((HSS.out.pinned (by omega)).mono (by omega)), Lib.hid (by rw [HCH.out, ← HJE.out]; exact HT7.out.set (by omega) bs)⟩
            · have HCH := Lib.hid hch
              obtain ⟨er, HER⟩ : ∃ er, Hid ((Sk.store (37 + (j : Int)) bs).1 = er) := ⟨_, Lib.hid rfl⟩
              rw [HER.out] at h1
              have her : (er == 0) = false := by simpa using h1
              have HST : Hid (∀ w5, PIn w w5 p d F1 Sk → Calls Tryz.prog 10 #[.pointer (some ⟨p, 0, none⟩), .int .i64 (37 + (j : Int)), .string bs] w5 fun e w6 => e = .returned (.int .i64 er) ∧ PIn w w6 p d (ext F1 w5 w6) (Sk.store (37 + (j : Int)) bs).2 ∧ Upd F1 w5 w6) := fun w5 h5 => by
                have := store_in h5 (37 + (j : Int)) bs HWF.out (by have := HBS.out; omega)
                rwa [HER.out] at this
              clear h1 hch hck hrd hpg hbs HER
              generalize (Sk.store (37 + (j : Int)) bs).2 = S6 at *
              rcases h with rfl | rfl
              all_goals
                go_wp2_with fail
                refine HBA.out.mono ?_
                rintro e w5 ⟨rfl, hB5⟩
                have HP5 := Lib.hid (HPA.out.made hB5)
                have HT5 := Lib.hid (HTA.out.made hB5)
                have HST5 := Lib.hid (HST.out w5 HP5.out)
                clear hB5 HBA HST c2a
                go_wp2_with fail
                refine HST5.out.mono ?_
                rintro e w6 ⟨rfl, hP6, hU6⟩
                have HP6 := Lib.hid hP6
                have HT6 := Lib.hid (HT5.out.step hU6)
                clear hP6 hU6 HST5
                go_wp2_with fail
                go_meet
                exact ⟨G, _, S6, rfl, HP6, Lib.hid ((HSS.out.pinned (by omega)).mono (by omega)), Lib.hid (by rw [HCH.out]; exact HT6.out)⟩
          · obtain ⟨l1, l2⟩ := HSk.out.pin (i := 37 + (j : Int)) (by omega) (by omega) (by omega)
            have hS := pin_in HPA.out (37 + (j : Int)) (wf_small (by omega)) (by omega) (by omega) (fun x hx => by have := HSk.out.pins _ (get_mem hx); simp only at this; omega)
            have HS7 := Lib.hid hS
            have L1 := Lib.hid l1
            have L2 := Lib.hid l2
            clear hS l1 l2 hck hrd
            generalize (Sk.pin (37 + (j : Int))).2 = S7 at *
            generalize (Sk.pin (37 + (j : Int))).1 = er at *
            go_wp2_with fail
            refine HS7.out.mono ?_
            rintro e w7 ⟨rfl, hP7, hU7⟩
            have HP7 := Lib.hid hP7
            have HT7 := Lib.hid (HTA.out.step hU7)
            clear hP7 hU7 HS7
            go_wp2_with fail
            go_meet
            exact ⟨G, _, S7, rfl, HP7, Lib.hid (L1.out.mono (by omega)), Lib.hid (by rw [L2.out]; exact HT7.out)⟩
          · obtain ⟨l1, l2⟩ := HSk.out.unpin (i := 37 + (j : Int))
            have hS := unpin_in HPA.out (37 + (j : Int)) (wf_small (by omega)) (fun x hx => by have := HSk.out.pins _ (get_mem hx); simp only at this; omega)
            have HS7 := Lib.hid hS
            have L1 := Lib.hid l1
            have L2 := Lib.hid l2
            clear hS l1 l2 hck hrd
            generalize (Sk.unpin (37 + (j : Int))).2 = S7 at *
            generalize (Sk.unpin (37 + (j : Int))).1 = er at *
            go_wp2_with fail
            refine HS7.out.mono ?_
            rintro e w7 ⟨rfl, hP7, hU7⟩
            have HP7 := Lib.hid hP7
            have HT7 := Lib.hid (HTA.out.step hU7)
            clear hP7 hU7 HS7
            go_wp2_with fail
            go_meet
            exact ⟨G, _, S7, rfl, HP7, Lib.hid ((L1.out.pinned (by omega)).mono (by omega)), Lib.hid (by rw [L2.out]; exact HT7.out)⟩
          · obtain ⟨l1, l2, l3⟩ := HSk.out.commit HPA.out.ok (by omega)
            have hS := commit_in HPA.out (fun h => by rw [HSk.out.up.told] at h; cases h) (by have := HSk.out.log; omega) (by omega)
            rw [l1] at hS
            have HS7 := Lib.hid hS
            have L2 := Lib.hid l2
            have L3 := Lib.hid l3
            have HDR : Hid (∀ w7 F7, PIn w w7 p d F7 Sk.commit.2 → Calls Tryz.prog 17 #[.pointer (some ⟨p, 0, none⟩)] w7 fun e w8 => ∃ a cap, e = .returned (.slice a 0 cap) ∧ PIn w w8 p d F7 Sk.commit.2 ∧ Below w7.heap.size w7 w8) := fun w7 F7 h7 => by
              refine (dirty_in h7).mono ?_
              rintro e w8 ⟨a, cap, he, _, hP8, hB8⟩
              rw [show Sk.commit.2.changed.length = 0 by rw [l2]; rfl] at he
              exact ⟨a, cap, he, hP8, hB8⟩
            clear hS l1 l2 l3 hck hrd
            generalize Sk.commit.2 = S7 at *
            go_wp2_with fail
            refine HS7.out.mono ?_
            rintro e w7 ⟨rfl, hP7, hU7⟩
            have HD7 := Lib.hid (HDR.out _ _ hP7)
            clear hP7 hU7 HS7 HDR
            go_wp2_with fail
            refine HD7.out.mono ?_
            rintro e w8 ⟨ad, cd, rfl, hP8, _⟩
            obtain ⟨hP9, hT9⟩ := St.fresh hP8
            have HP9 := Lib.hid hP9
            have HT9 := Lib.hid hT9
            have hmk := make_stored w8
            clear hP8 hP9 hT9 HD7
            go_wp2_with fail
            go_meet
            exact ⟨_, _, S7, rfl, HP9, Lib.hid ((L3.out.pinned (by omega)).mono (by omega)), Lib.hid (by rw [L2.out]; exact HT9.out)⟩
        case rest =>
          obtain ⟨G', F', S', rfl, HP', HS', HT'⟩ := hcut
          have hck := HS'.out.clock
          have hle : (S'.held.length : Int) ≤ most := by have := HP'.out.ok.len; have := HS'.out.room; omega
          have HHD := Lib.hid (held_in HP'.out (by omega))
          have HAP : Hid (∀ a b, a ∈ S'.held.map (·.1) → b ∈ S'.changed.map (·.1) → a ≠ b) := fun a b ha hb => held_apart HP'.out.ok ha hb
          have HDT : Hid (∀ w1, PIn w w1 p d F' S' → Calls Tryz.prog 17 #[.pointer (some ⟨p, 0, none⟩)] w1 fun e w2 => ∃ a cap, e = .returned (.slice a S'.changed.length cap) ∧ w2.ownsRow w1.heap.size 3 1 (.slice a S'.changed.length cap) S'.changed.length ((S'.changed.map (·.1)).map encZ) ∧ PIn w w2 p d F' S' ∧ Below w1.heap.size w1 w2) := fun w1 h1 => dirty_in h1
          have hkl : (S'.changed.map (·.1)).length = S'.changed.length := by simp
          have hnd0 := changed_length HP'.out.ok
          have hhl : (S'.held.map (·.1)).length = S'.held.length := by simp
          clear HPA HTA HNA HCA HSk hck
          generalize S'.changed.map (·.1) = dk at *
          generalize S'.changed.length = nd at *
          generalize S'.held.map (·.1) = hk0 at *
          generalize S'.held.length = nh at *
          go_wp2_with fail
          refine HHD.out.mono ?_
          rintro e wh ⟨ah, ch, ks, rfl, hperm, _, hrow1, hP1, hB1⟩
          have HP1 := Lib.hid hP1
          have HT1 := Lib.hid (HT'.out.made hB1)
          have HR1 := Lib.hid hrow1
          have HPM := Lib.hid hperm
          have hksl : ks.length = nh := by rw [hperm.length_eq, hhl]
          have HD1 := Lib.hid (HDT.out _ hP1)
          clear hP1 hB1 hrow1 hperm HHD HDT HP' HT'
          go_wp2_with fail
          refine HD1.out.mono ?_
          rintro e wd ⟨ad, cd, rfl, hrow2, hP2, hB2⟩
          have HP2 := Lib.hid hP2
          have HT2 := Lib.hid (HT1.out.made hB2)
          have HC1 : Hid (∀ i, i < nh → ∃ g, ah = some ⟨g, 0, none⟩ ∧ wd.cell? ⟨g, i, none⟩ = some (.int .i64 (ks.getD i 0))) := fun i hi => by
            obtain ⟨a', c', e1, hc⟩ := row_cell HR1.out
            simp at e1
            obtain ⟨rfl, rfl⟩ := e1
            obtain ⟨g, hg, hgl, hcell⟩ := hc i hi
            refine ⟨g, hg, (hB2.cell (p := ⟨g, i, none⟩) hgl).trans (hcell.trans ?_)⟩
            rw [List.getElem?_map, List.getElem?_eq_getElem (by omega), List.getD_eq_getElem?_getD, List.getElem?_eq_getElem (by omega)]; rfl
          have HC2 : Hid (∀ i, i < nd → ∃ g, ad = some ⟨g, 0, none⟩ ∧ wd.cell? ⟨g, i, none⟩ = some (.int .i64 (dk.getD i 0))) := fun i hi => by
            obtain ⟨a', c', e1, hc⟩ := row_cell hrow2
            simp at e1
            obtain ⟨rfl, rfl⟩ := e1
            obtain ⟨g, hg, hgl, hcell⟩ := hc i hi
            refine ⟨g, hg, hcell.trans ?_⟩
            rw [List.getElem?_map, List.getElem?_eq_getElem (by omega), List.getD_eq_getElem?_getD, List.getElem?_eq_getElem (by omega)]; rfl
          have HNE : Hid (∀ i m, i < nh → m < nd → ks.getD i 0 ≠ dk.getD m 0) := fun i m hi hm => by
            rw [List.getD_eq_getElem?_getD, List.getElem?_eq_getElem (by omega), List.getD_eq_getElem?_getD, List.getElem?_eq_getElem (by omega)]
            exact HAP.out _ _ (HPM.out.mem_iff.1 (List.getElem_mem _)) (List.getElem_mem _)
          clear hP2 hB2 hrow2 HD1 HP1 HT1 HR1 HPM HAP hkl hhl hksl
          have hnh : nh ≤ 1024 := by omega
          go_wp2
          go_loopw [138] (fun v wr => ∃ i : Nat, v = .int .i64 i ∧ i ≤ nh ∧ Hid (∃ q, wr = wd.drewN q)) (fun v _ => nh - (intOf v).toNat)
          case atStart => exact ⟨0, rfl, by omega, ⟨0, rfl⟩⟩
          case round =>
            obtain ⟨i, rfl, hi, HQ⟩ := hrel
            by_cases hil : i < nh
            · obtain ⟨g1, hg1, hcl1⟩ := HC1.out i hil
              have HD1 : Hid (∀ q, (wd.drewN q).cell? ⟨g1, i, none⟩ = some (.int .i64 (ks.getD i 0))) := fun q => hcl1
              clear hcl1
              go_wp2
              go_loopw [143] (fun v wr => ∃ m : Nat, v = .int .i64 m ∧ m ≤ nd ∧ Hid (∃ q, wr = wd.drewN q)) (fun v _ => nd - (intOf v).toNat)
              case atStart => exact ⟨0, rfl, by omega, HQ⟩
              case round =>
                obtain ⟨m, rfl, hm, HQ2⟩ := hrel
                by_cases hml : m < nd
                · obtain ⟨g2, hg2, hcl2⟩ := HC2.out m hml
                  have hne := HNE.out i m hil hml
                  obtain ⟨z1, HZ1⟩ : ∃ z1, Hid (ks.getD i 0 = z1) := ⟨_, Lib.hid rfl⟩
                  obtain ⟨z2, HZ2⟩ : ∃ z2, Hid (dk.getD m 0 = z2) := ⟨_, Lib.hid rfl⟩
                  have hnb : (z1 == z2) = false := by rw [HZ1.out, HZ2.out] at hne; simpa using hne
                  have hd1 : ∀ n, (wr.drewN n).cell? ⟨g1, i, none⟩ = some (.int .i64 z1) := fun n => by
                    obtain ⟨q, hq⟩ := HQ2.out
                    rw [hq, World.drewN_drewN, HD1.out, HZ1.out]
                  have hd2 : ∀ n, (wr.drewN n).cell? ⟨g2, m, none⟩ = some (.int .i64 z2) := fun n => by
                    obtain ⟨q, hq⟩ := HQ2.out
                    rw [hq, World.drewN_drewN, ← HZ2.out]; exact hcl2
                  have HQ3 : Hid (∀ n, ∃ q, wr.drewN n = wd.drewN q) := fun n => by
                    obtain ⟨q, hq⟩ := HQ2.out
                    exact ⟨q + n, by rw [hq, World.drewN_drewN]⟩
                  clear hne hcl2 HQ2 HQ HZ1 HZ2
                  subst hg1 hg2
                  go_upto_region 45 with fail
                  go_quiet (fail)
                  go_wp2
                  go_roundw
                  case rel => exact ⟨m + 1, by go_num, by omega, HQ3.out _⟩
                  case measure => simp [intOf]; omega
                · go_wp2
                  go_roundw
                  case rel => exact ⟨i + 1, by go_num, by omega, HQ2⟩
                  case measure => simp [intOf]; omega
            · obtain ⟨q0, rfl⟩ := HQ.out
              go_wp2
              go_roundw
              case rel => exact ⟨k + 1, G', F', S', rfl, by go_num, by omega, Lib.hid (HP2.out.drewN q0), Lib.hid (by have := HS'.out.mono (M := ((k + 1 : Nat) : Int) * 5000) (by push_cast; omega); exact this), Lib.hid (HT2.out.made (drewN_below wd q0))⟩
              case measure => simp [intOf]; omega
      · go_wp2
        go_ret
        exact ⟨rfl, HPk.out.below⟩
end Go.Proofs.YtdoankamaobkoaaGreat
