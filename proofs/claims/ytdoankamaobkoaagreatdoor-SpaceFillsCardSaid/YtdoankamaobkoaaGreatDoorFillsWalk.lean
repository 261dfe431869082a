/- SpaceFills: the walk. -/
import Derived.Test.YtdoankamaobkoaaGreatDoorFills
set_option linter.unusedSimpArgs false
set_option linter.unusedVariables false
namespace Go.Proofs.YtdoankamaobkoaaGreatDoor
open Go.RowKit Go.Maps Go.Shelf

/-- a row of truths -/
def flRow (fl : List Bool) : Obj := .cells (fl.map Value.bool).toArray 4 (0, 0)
theorem make_flags (m : Nat) (W : World) (hm : m ≤ 1048576) : (Instr.makeSlice 37 (.int .i64 m) (.int .i64 m)).run Tryz.prog W = .ok (.slice (some ⟨W.heap.size, 0, none⟩) m m) (W.alloc (flRow (List.replicate m false))) := by
  obtain ⟨i0, hi, hz0, hz1, hz2⟩ := info_parts info_bool
  have hmk := run_make (P := Tryz.prog) W 37 4 i0 (.bool false) Tryz.underlying37 hi hz0 .i64 .i64 m m (by omega) (Int.le_refl _) (by rw [hz2]; omega) (by omega)
  rw [hz1, Nat.mul_one] at hmk
  simp only [Int.toNat_natCast] at hmk
  rw [hmk]
  have e : madeCells (Value.bool false).cells m = ((List.replicate m false).map Value.bool).toArray := by
    apply Array.ext_getElem?
    intro j
    by_cases hj : j < m
    · rw [made_get _ _ _ rfl (by omega), List.getElem?_toArray, List.getElem?_map, List.getElem?_replicate, if_pos hj]; rfl
    · have hs : (madeCells (Value.bool false).cells m).size = m := by simp [size_madeCells, Value.cells]
      rw [Array.getElem?_eq_none (by omega), Array.getElem?_eq_none (by simp; omega)]
  rw [e]; rfl
theorem Out.flag {w : World} {g : Nat} {F : Nat → Prop} {fl : List Bool} (h : Out w g F (flRow fl)) {k : Nat} (hk : k < fl.length) : w.cell? ⟨g, k, none⟩ = some (.bool (fl.getD k false)) := by
  rw [cell_of h.obj]
  simp [List.getElem?_map, List.getElem?_eq_getElem hk, List.getD_eq_getElem?_getD]
theorem Out.setFlag {w : World} {g : Nat} {F : Nat → Prop} {fl : List Bool} (h : Out w g F (flRow fl)) (k : Nat) (b : Bool) : Out (w.setCell ⟨g, k, none⟩ (.bool b)) g F (flRow (fl.set k b)) := by
  refine ⟨?_, h.out⟩
  rw [heap_setCell_same h.obj]
  unfold flRow
  congr 2
  apply Array.ext'
  simp [List.map_set]
theorem Out.flFrozen {w : World} {g : Nat} {F : Nat → Prop} {fl : List Bool} (h : Out w g F (flRow fl)) (k : Nat) : w.frozen? ⟨g, k, none⟩ = false := frozen_of h.obj k
theorem Out.other {w : World} {g b : Nat} {F : Nat → Prop} {o : Obj} (h : Out w g F o) (hne : g ≠ b) (i : Nat) (v : Value) : Out (w.setCell ⟨b, i, none⟩ v) g F o := ⟨(setCell_other hne).trans h.obj, h.out⟩

theorem flags_got (x : Bool) (j k : Nat) : ((decide (j < k) || x) || decide (j = k)) = (decide (j < k + 1) || x) := by
  have : (j < k + 1) = (j < k ∨ j = k) := by rw [eq_iff_iff]; omega
  simp only [this, Bool.decide_or]
  cases decide (j < k) <;> cases decide (j = k) <;> cases x <;> rfl
theorem flags_skip (x : Bool) (j k : Nat) (h : j = k → x = true) : (decide (j < k) || x) = (decide (j < k + 1) || x) := by
  by_cases e : j = k
  · rw [h e]; simp
  · have : (j < k) = (j < k + 1) := by rw [eq_iff_iff]; omega
    simp only [this]
theorem flag_set {fl : List Bool} {q : Nat} (j : Nat) (hq : q < fl.length) : (fl.set q true).getD j false = if j = q then true else fl.getD j false := by
  simp only [List.getD_eq_getElem?_getD, List.getElem?_set]
  by_cases e : q = j
  · subst e; simp [hq]
  · rw [if_neg e, if_neg (fun h => e h.symm)]
section
variable {w0 w : World} {s d : Nat} {F : Nat → Prop} {n N : Int} {V D : Int → ByteArray} {f : Nat → Bool} {k : Nat}
theorem alloc_map (h : SIn w0 w s d F n V D N) (hM : MapIs n V f) (hk : k < spMany n) (ha : ∀ j, j < k → f j = true) (hf : f k = false) (hN : N < 2305843009213693000) :
    Calls Tryz.prog 13 #[.pointer (some ⟨s, 0, none⟩)] w fun e w' => e = .returned (.tuple #[.int .i64 (jFirst n + 1 + k), .int .i64 0]) ∧ ∃ V', SStp w0 w w' s d F n V' D (N + 4) ∧ MapIs n V' (fun j => f j || decide (j = k)) := by
  have hbd := h.bd
  refine (alloc_some h (hM.next hk ha hf) hN).mono fun e w' ⟨he, hS⟩ => ⟨he, _, hS, hM.got hk (h.size h.first) (spMany_bd hbd.1 hbd.2).2.1 hf⟩
theorem release_map (h : SIn w0 w s d F n V D N) (hM : MapIs n V f) (hk : k < spMany n) (hN : N < 2305843009213693000) :
    Calls Tryz.prog 16 #[.pointer (some ⟨s, 0, none⟩), .int .i64 (jFirst n + 1 + k)] w fun e w' => e = .returned (.int .i64 (if f k then 0 else 8)) ∧ ∃ V', SStp w0 w w' s d F n V' D (N + 4) ∧ MapIs n V' (fun j => f j && !decide (j = k)) := by
  have hbd := h.bd
  have ht := hM.taken hbd.1 hbd.2 hk
  have hR := release_sp h (jFirst n + 1 + k) hN
  rw [ht] at hR
  cases hf : f k with
  | true =>
    rw [hf] at hR
    refine hR.mono fun e w' ⟨he, hS⟩ => ⟨he, _, hS, ?_⟩
    rw [if_pos rfl, if_pos rfl, show (jFirst n + 1 + (k : Int) - jFirst n).toNat = k + 1 by omega]
    exact hM.back hk (h.size h.first) (spMany_bd hbd.1 hbd.2).2.1 hf
  | false =>
    rw [hf] at hR
    refine hR.mono fun e w' ⟨he, hS⟩ => ⟨he, _, hS, ?_⟩
    rw [if_neg (by simp)]
    refine hM.congr fun j hj => ?_
    by_cases e : j = k
    · subst e; simp [hf]
    · simp [e]
end

set_option maxHeartbeats 8000000 in
set_option maxRecDepth 100000 in
theorem fills_walk (n : Int) (a2 : Option Addr) (len2 cap2 : Nat) (z2 : List Int) (w : World) (hn : (Lit.int .i64 n).wf = true) (hg : Glob w) (hrow : RowU8 w a2 len2 z2) (hlen : len2 ≤ 140737488355328) :
    Calls Tryz.prog 3 #[.int .i64 n, .slice a2 len2 cap2] w fun e w' => e = .returned (.bool true) ∧ Below w.heap.size w w' := by
  have HROW := Lib.hid hrow
  have HW := Lib.hid (swakes_any w hg)
  have HBG := Lib.hid (fun w1 hB => begin_any n 3 hn (by decide) w w1 hB hg)
  have hs := spSize_bd n
  have HSZ := Lib.hid (fun W => size_any n W hn)
  have HM0 := Lib.hid (map_new n)
  generalize spV n = V0 at *
  generalize spSize n = z at *
  have hF := jFirst_bd z
  have hF2 := first_pos hs.1 (by omega : z ≤ 2048)
  obtain ⟨m1, m2, m3⟩ := spMany_bd hs.1 (by omega : z ≤ 2048)
  have HPG : Hid (∀ W, Calls Tryz.prog 12 #[.int .i64 z] W fun e w' => e = .returned (.int .i64 ((spMany z : Int) + 2)) ∧ W = w') := fun W => by
    have := rpages_any z W hs.1 (by omega)
    rw [show jPages z = (spMany z : Int) + 2 by omega] at this
    exact this
  have HFS := Lib.hid (fun W => rfirst_any z W hs.1 (by omega))
  have HAL : Hid (∀ w' s d F V D N f k, SIn w w' s d F z V D N → MapIs z V f → k < spMany z → (∀ j, j < k → f j = true) → f k = false → N < 2305843009213693000 →
      Calls Tryz.prog 13 #[.pointer (some ⟨s, 0, none⟩)] w' fun e w'' => e = .returned (.tuple #[.int .i64 (jFirst z + 1 + k), .int .i64 0]) ∧ ∃ V', SStp w w' w'' s d F z V' D (N + 4) ∧ MapIs z V' (fun j => f j || decide (j = k))) := fun w' s d F V D N f k h1 h2 h3 h4 h5 h6 => alloc_map h1 h2 h3 h4 h5 h6
  have HAN : Hid (∀ w' s d F V D N f, SIn w w' s d F z V D N → MapIs z V f → (∀ j, j < spMany z → f j = true) → N < 2305843009213693000 →
      Calls Tryz.prog 13 #[.pointer (some ⟨s, 0, none⟩)] w' fun e w'' => e = .returned (.tuple #[.int .i64 0, .int .i64 16]) ∧ SStp w w' w'' s d F z V D (N + 2)) := fun w' s d F V D N f h1 h2 h3 h4 => alloc_none h1 (h2.full h3) h4
  have HFR : Hid (∀ w' s d F V D N f, SIn w w' s d F z V D N → MapIs z V f → (∀ j, j < spMany z → f j = true) → N < 2305843009213692000 →
      Calls Tryz.prog 14 #[.pointer (some ⟨s, 0, none⟩)] w' fun e w'' => e = .returned (.int .i64 0) ∧ SStp w w' w'' s d F z V D (N + 4)) := fun w' s d F V D N f h1 h2 h3 h4 => by
    have := free_sp h1 h4
    rw [h2.free h3] at this
    exact this
  have HRL : Hid (∀ w' s d F V D N f k, SIn w w' s d F z V D N → MapIs z V f → k < spMany z → N < 2305843009213693000 →
      Calls Tryz.prog 16 #[.pointer (some ⟨s, 0, none⟩), .int .i64 (jFirst z + 1 + k)] w' fun e w'' => e = .returned (.int .i64 (if f k then 0 else 8)) ∧ ∃ V', SStp w w' w'' s d F z V' D (N + 4) ∧ MapIs z V' (fun j => f j && !decide (j = k))) := fun w' s d F V D N f k h1 h2 h3 h4 => release_map h1 h2 h3 h4
  have HCG : Hid (∀ V f g, MapIs z V f → (∀ j, j < spMany z → f j = g j) → MapIs z V g) := fun V f g h1 h2 => h1.congr h2
  clear hrow hg m3 hs
  generalize spMany z = m at *
  generalize jFirst z = f at *
  go_enter Tryz.func3, Tryz.ntmps3
  go_wp2_with fail
  refine HW.out.mono ?_
  rintro e w1 ⟨rfl, hB⟩
  have HBW := Lib.hid (HBG.out w1 hB)
  clear hB HW HBG
  go_wp2_with fail
  refine HBW.out.mono ?_
  rintro e w2 ⟨W, s, d, F, r1, r2, b1, b2, vp1, vt1, vp2, vt2, rfl, hW, hS, hFb, hsb, hb12, hb2W, hb0, _, _, _, _⟩
  obtain ⟨oW, HOW⟩ : ∃ oW, Hid (oW = Obj.cells #[.pointer (some ⟨d, 0, none⟩), .pointer (some ⟨s, 0, none⟩), .pointer (some ⟨r1, 0, none⟩), .pointer (some ⟨r2, 0, none⟩)] 33 (0, 0)) := ⟨_, Lib.hid rfl⟩
  rw [← HOW.out] at hW
  have HS2 := Lib.hid hS
  have HO2 : Hid (Out w2 W F oW) := ⟨hW, fun hx => by have := hFb _ hx; omega⟩
  have HCW : Hid (∀ w' F', Out w' W F' oW → w'.cell? ⟨W, 1, none⟩ = some (.pointer (some ⟨s, 0, none⟩))) := fun w' F' h => by
    have := h.obj; rw [HOW.out] at this; rw [cell_of this]; rfl
  have HNW : Hid (s < W ∧ W < w2.heap.size ∧ w.heap.size ≤ W) := ⟨by omega, lt_of hW, by omega⟩
  clear hW hS hFb hsb hb12 hb2W hb0 HBW HOW
  go_wp2_with (first
    | (go_at_call 11; refine (HSZ.out _).mono ?_; rintro e w' ⟨rfl, rfl⟩)
    | (go_at_call 10; refine (HFS.out _).mono ?_; rintro e w' ⟨rfl, rfl⟩)
    | (go_at_call 12; refine (HPG.out _).mono ?_; rintro e w' ⟨rfl, rfl⟩))
  clear HSZ HFS HPG
  go_loopw [8] (fun i wr => ∃ (k : Nat) (F' : Nat → Prop) (V' : Int → ByteArray), i = .int .i64 k ∧ k ≤ m ∧ Hid (SIn w wr s d F' z V' V0 (5000 + 4 * k)) ∧ Hid (MapIs z V' (fun j => decide (j < k))) ∧ Hid (Out wr W F' oW)) (fun i _ => m - (intOf i).toNat)
  case atStart => exact ⟨0, F, V0, rfl, by omega, Lib.hid (HS2.out.mono (by omega)), Lib.hid (HCG.out _ _ _ HM0.out (fun j _ => by simp)), HO2⟩
  case round =>
    obtain ⟨k, F', V', rfl, hk, HSk, HMk, HOk⟩ := hrel
    have c1 := HCW.out _ _ HOk.out
    by_cases hlt : k < m
    · have HA := Lib.hid (HAL.out wr s d F' V' V0 _ _ k HSk.out HMk.out hlt (fun j hj => by simpa using hj) (by simp) (by omega))
      go_wp2_with fail
      refine HA.out.mono ?_
      rintro e w3 ⟨rfl, V3, hS3, hM3⟩
      have HS3 := Lib.hid hS3
      have HM3 := Lib.hid hM3
      clear hS3 hM3 HA
      go_wp2
      go_roundw
      case rel => exact ⟨k + 1, _, V3, by go_num, by omega, Lib.hid (HS3.out.sin.mono (by push_cast; omega)), Lib.hid (HCG.out _ _ _ HM3.out (fun j _ => by rw [Bool.eq_iff_iff]; simp; omega)), Lib.hid (HOk.out.step HS3.out.upd)⟩
      case measure => simp [intOf]; omega
    · obtain rfl : k = m := by omega
      have hall : ∀ j, j < k → (fun j => decide (j < k)) j = true := fun j hj => by simpa using hj
      have HA := Lib.hid (HAN.out wr s d F' V' V0 _ _ HSk.out HMk.out hall (by omega))
      have HALL := Lib.hid hall
      clear hall
      go_wp2_with fail
      refine HA.out.mono ?_
      rintro e w3 ⟨rfl, hS3⟩
      have HO3 := Lib.hid (HOk.out.step hS3.upd)
      have c3 := HCW.out _ _ HO3.out
      have HF3 := Lib.hid (HFR.out w3 s d _ V' V0 _ _ hS3.sin HMk.out HALL.out (by omega))
      clear hS3 HA c1
      go_wp2_with fail
      refine HF3.out.mono ?_
      rintro e w4 ⟨rfl, hS4⟩
      have HO4 := Lib.hid (HO3.out.step hS4.upd)
      have c4 := HCW.out _ _ HO4.out
      have HC4 := Lib.hid (commit_sp hS4.sin (by omega))
      clear hS4 HF3 c3
      go_wp2_with fail
      refine HC4.out.mono ?_
      rintro e w5 ⟨rfl, hS5⟩
      have HO5 := Lib.hid (HO4.out.step hS5.upd)
      have HS5 := Lib.hid hS5.sin.lt
      have HSL5 := Lib.hid hS5.sin.slt
      have hmk := make_flags k w5 (by omega)
      clear hS5 HC4 c4
      have HG : Hid (SIn w (w5.alloc (flRow (List.replicate k false))) s d (fun b => ext (ext (ext F' wr w3) w3 w4) w4 w5 b ∧ b < w5.heap.size) z V' V' 20000 ∧ Out (w5.alloc (flRow (List.replicate k false))) W (fun b => ext (ext (ext F' wr w3) w3 w4) w4 w5 b ∧ b < w5.heap.size) oW ∧
          Out (w5.alloc (flRow (List.replicate k false))) w5.heap.size (fun b => ext (ext (ext F' wr w3) w3 w4) w4 w5 b ∧ b < w5.heap.size) (flRow (List.replicate k false)) ∧ w5.heap.size ≠ s ∧ w5.heap.size ≠ W ∧ w.heap.size ≤ w5.heap.size) := by
        have hWl := lt_of HO5.out.obj
        have hsl := HSL5.out
        exact ⟨(HS5.out.alloc _).mono (by omega), (show Out w5 W (fun b => ext (ext (ext F' wr w3) w3 w4) w4 w5 b ∧ b < w5.heap.size) oW from ⟨HO5.out.obj, fun hx => HO5.out.out hx.1⟩).made ((Below.refl _ w5).alloc (Nat.le_refl _) _), ⟨heap_alloc_new' _ _, fun hx => by omega⟩, by omega, by omega, HS5.out.below.size⟩
      clear HS5 HO5 HSL5
      generalize (fun b => ext (ext (ext F' wr w3) w3 w4) w4 w5 b ∧ b < w5.heap.size) = F6 at *
      generalize w5.alloc (flRow (List.replicate k false)) = w6 at *
      generalize w5.heap.size = G at *
      have HGN : Hid (G ≠ s ∧ G ≠ W ∧ w.heap.size ≤ G) := HG.out.2.2.2
      go_wp2
      clear hmk
      go_loopw [90] (fun v wr => ∃ (i : Nat) (F7 : Nat → Prop) (V7 : Int → ByteArray) (fl : List Bool), v = .int .i64 i ∧ i ≤ len2 ∧ Hid (fl.length = k) ∧ Hid (SIn w wr s d F7 z V7 V' (20000 + 4 * i)) ∧ Hid (MapIs z V7 (fun j => !fl.getD j false)) ∧ Hid (Out wr W F7 oW) ∧ Hid (Out wr G F7 (flRow fl))) (fun v _ => len2 - (intOf v).toNat)
      case atStart => exact ⟨0, F6, V', List.replicate k false, rfl, by omega, Lib.hid (by simp), Lib.hid (HG.out.1.mono (by omega)), Lib.hid (HCG.out _ _ _ HMk.out (fun j hj => by simp [hj])), Lib.hid HG.out.2.1, Lib.hid HG.out.2.2.1⟩
      case round =>
        obtain ⟨i, F7, V7, fl, rfl, hi, HFL, HS7, HM7, HO7, HG7⟩ := hrel
        clear HG HMk HOk HSk HALL HAN
        by_cases hlt2 : i < len2
        · obtain ⟨b, off, rfl, hbl, hcell, hv1, hv2⟩ := HROW.out i hlt2
          have hcell' : wr.cell? ⟨b, off + i, none⟩ = some (.int .u8 (z2.getD i 0)) := (HS7.out.below.cell (p := ⟨b, off + i, none⟩) hbl).trans hcell
          clear hcell
          generalize z2.getD i 0 = v at *
          obtain ⟨q, hq⟩ : ∃ q : Nat, v % (k : Int) = q := ⟨(v % (k : Int)).toNat, by have := Int.emod_nonneg v (b := (k : Int)) (by omega); omega⟩
          have hqk : q < k := by have := Int.emod_lt_of_pos v (b := (k : Int)) (by omega); omega
          have cW := HCW.out _ _ HO7.out
          have hR := HRL.out wr s d F7 V7 V' _ _ q HS7.out HM7.out hqk (by omega)
          have hcq := HG7.out.flag (k := q) (by have := HFL.out; omega)
          cases hfl : fl.getD q false with
          | true =>
            rw [hfl] at hcq
            simp only [hfl, Bool.not_true, Bool.false_eq_true, if_false] at hR
            have HR := Lib.hid hR
            have HGG := Lib.hid HG7.out
            clear hR hcq
            go_wp2_with fail
            simp only [hq]
            refine HR.out.mono ?_
            rintro e w8 ⟨rfl, V8, hS8, hM8⟩
            have HS8 := Lib.hid hS8
            have HM8 := Lib.hid hM8
            have HG8 := Lib.hid (HGG.out.step hS8.upd)
            have HO8 := Lib.hid (HO7.out.step hS8.upd)
            have hcq8 := HG8.out.flag (k := q) (by have := HFL.out; omega)
            have hfr8 := HG8.out.flFrozen q
            rw [hfl] at hcq8
            clear hS8 hM8 HR HGG
            go_wp2
            go_roundw
            case rel =>
              have hgn := HGN.out
              exact ⟨i + 1, _, V8, fl.set q true, by go_num, by omega, Lib.hid (by rw [List.length_set]; exact HFL.out), Lib.hid ((HS8.out.sin.mono (by push_cast; omega)).setCell hgn.2.2 HG8.out.out hgn.1 q _),
                Lib.hid (HCG.out _ _ _ HM8.out (fun j _ => by rw [flag_set _ (by have := HFL.out; omega)]; by_cases e : j = q <;> simp [e, hfl])), Lib.hid (HO8.out.other (fun e => hgn.2.1 e.symm) q _), Lib.hid (HG8.out.setFlag q true)⟩
            case measure => simp [intOf]; omega
          | false =>
            rw [hfl] at hcq
            simp only [hfl, Bool.not_false, if_true] at hR
            have HR := Lib.hid hR
            have HGG := Lib.hid HG7.out
            clear hR hcq
            go_wp2_with fail
            simp only [hq]
            refine HR.out.mono ?_
            rintro e w8 ⟨rfl, V8, hS8, hM8⟩
            have HS8 := Lib.hid hS8
            have HM8 := Lib.hid hM8
            have HG8 := Lib.hid (HGG.out.step hS8.upd)
            have HO8 := Lib.hid (HO7.out.step hS8.upd)
            have hcq8 := HG8.out.flag (k := q) (by have := HFL.out; omega)
            have hfr8 := HG8.out.flFrozen q
            rw [hfl] at hcq8
            clear hS8 hM8 HR HGG
            go_wp2
            go_roundw
            case rel =>
              have hgn := HGN.out
              exact ⟨i + 1, _, V8, fl.set q true, by go_num, by omega, Lib.hid (by rw [List.length_set]; exact HFL.out), Lib.hid ((HS8.out.sin.mono (by push_cast; omega)).setCell hgn.2.2 HG8.out.out hgn.1 q _),
                Lib.hid (HCG.out _ _ _ HM8.out (fun j _ => by rw [flag_set _ (by have := HFL.out; omega)]; by_cases e : j = q <;> simp [e, hfl])), Lib.hid (HO8.out.other (fun e => hgn.2.1 e.symm) q _), Lib.hid (HG8.out.setFlag q true)⟩
            case measure => simp [intOf]; omega
        · obtain rfl : i = len2 := by omega
          clear hlt2
          go_wp2_with fail
          go_loopw [132] (fun v wr => ∃ (k' : Nat) (F8 : Nat → Prop) (V8 : Int → ByteArray), v = .int .i64 k' ∧ k' ≤ k ∧ Hid (SIn w wr s d F8 z V8 V' (20000 + 4 * i + 4 * k')) ∧ Hid (MapIs z V8 (fun j => decide (j < k') || !fl.getD j false)) ∧ Hid (Out wr W F8 oW) ∧ Hid (Out wr G F8 (flRow fl))) (fun v _ => k - (intOf v).toNat)
          case atStart => exact ⟨0, F7, V7, rfl, by omega, Lib.hid (HS7.out.mono (by omega)), Lib.hid (HCG.out _ _ _ HM7.out (fun j _ => by simp)), HO7, HG7⟩
          case round =>
            obtain ⟨k', F8, V8, rfl, hk', HS8, HM8, HO8, HG8⟩ := hrel
            clear HG7 HO7 HS7 HM7
            have cW := HCW.out _ _ HO8.out
            by_cases hlt3 : k' < k
            · have hcq := HG8.out.flag (k := k') (by have := HFL.out; omega)
              cases hfl : fl.getD k' false with
              | true =>
                rw [hfl] at hcq
                have HA := Lib.hid (HAL.out _ s d F8 V8 V' _ _ k' HS8.out HM8.out hlt3 (fun j hj => by simp [hj]) (by rw [hfl]; simp) (by omega))
                go_wp2_with fail
                refine HA.out.mono ?_
                rintro e w9 ⟨rfl, V9, hS9, hM9⟩
                have HS9 := Lib.hid hS9
                have HM9 := Lib.hid hM9
                clear hS9 hM9 HA
                go_wp2
                go_roundw
                case rel => exact ⟨k' + 1, _, V9, by go_num, by omega, Lib.hid (HS9.out.sin.mono (by push_cast; omega)), Lib.hid (HCG.out _ _ _ HM9.out (fun j _ => flags_got _ j k')), Lib.hid (HO8.out.step HS9.out.upd), Lib.hid (HG8.out.step HS9.out.upd)⟩
                case measure => simp [intOf]; omega
              | false =>
                rw [hfl] at hcq
                go_wp2
                go_roundw
                case rel => exact ⟨k' + 1, F8, V8, by go_num, by omega, Lib.hid (HS8.out.mono (by push_cast; omega)), Lib.hid (HCG.out _ _ _ HM8.out (fun j _ => flags_skip _ j k' (fun e => by subst e; rw [hfl]; rfl))), HO8, HG8⟩
                case measure => simp [intOf]; omega
            · obtain rfl : k' = k := by omega
              have HF9 := Lib.hid (HFR.out _ s d F8 V8 V' _ _ HS8.out HM8.out (fun j hj => by simp [hj]) (by omega))
              go_wp2_with fail
              refine HF9.out.mono ?_
              rintro e w9 ⟨rfl, hS9⟩
              have hB9 := hS9.sin.below
              clear hS9 HF9
              go_wp2
              go_ret
              exact ⟨rfl, hB9⟩
end Go.Proofs.YtdoankamaobkoaaGreatDoor
