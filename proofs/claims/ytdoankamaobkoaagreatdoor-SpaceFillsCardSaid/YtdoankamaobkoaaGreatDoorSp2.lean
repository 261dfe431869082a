/- A space: turn, taken, next. -/
import Derived.Test.YtdoankamaobkoaaGreatDoorSp1
import Derived.Lib.ConvBytes
import Derived.StillTailTactics
import Derived.Laws.BitsAllLaws
import Derived.Laws.BytesArg
import Derived.Deep.CutBlock
set_option linter.unusedSimpArgs false
set_option linter.unusedVariables false
namespace Go.Proofs.YtdoankamaobkoaaGreatDoor
open Go.RowKit Go.Maps Go.Shelf

/-! ### bits as plain data -/
def flipB (s : ByteArray) (i : Nat) : ByteArray := ⟨(s.data.toList.set (i / 8) (UInt8.ofNat (byteN s (i / 8) ^^^ 2 ^ (i % 8)))).toArray⟩
theorem flipB_size (s : ByteArray) (i : Nat) : (flipB s i).size = s.size := by
  show ((s.data.toList.set (i / 8) (UInt8.ofNat (byteN s (i / 8) ^^^ 2 ^ (i % 8)))).toArray).size = s.data.size
  rw [List.size_toArray, List.length_set, Array.length_toList]
theorem bitB_test (s : ByteArray) (i : Nat) : bitB s i = (byteN s (i / 8)).testBit (i % 8) := by
  unfold bitB
  rw [Nat.testBit_eq_decide_div_mod_eq]
  rfl
theorem byteN_flip (s : ByteArray) {i : Nat} (h : i / 8 < s.size) (k : Nat) : byteN (flipB s i) k = if k = i / 8 then byteN s (i / 8) ^^^ 2 ^ (i % 8) else byteN s k := by
  unfold byteN flipB
  simp only [List.getD_eq_getElem?_getD, List.getElem?_set]
  by_cases e : k = i / 8
  · subst e
    have hl : i / 8 < s.data.toList.length := by simpa using h
    rw [if_pos rfl, if_pos rfl, if_pos hl]
    simp only [Option.getD_some]
    have hx : byteN s (i / 8) ^^^ 2 ^ (i % 8) < 2 ^ 8 := Nat.xor_lt_two_pow (byteN_lt s (i / 8)) (Nat.pow_lt_pow_right (by omega) (Nat.mod_lt _ (by omega)))
    show (UInt8.ofNat (byteN s (i / 8) ^^^ 2 ^ (i % 8))).toNat = _
    rw [UInt8.toNat_ofNat_of_lt' hx]
    unfold byteN
    rw [List.getD_eq_getElem?_getD]
  · rw [if_neg (fun e' => e e'.symm), if_neg e]
theorem bitB_flip (s : ByteArray) {i : Nat} (h : i / 8 < s.size) (j : Nat) : bitB (flipB s i) j = if j = i then !bitB s i else bitB s j := by
  rw [bitB_test, byteN_flip s h]
  by_cases e : j / 8 = i / 8
  · rw [if_pos e, Nat.testBit_xor, Nat.testBit_two_pow]
    by_cases e2 : j = i
    · subst e2
      rw [if_pos rfl, bitB_test]
      simp
    · rw [if_neg e2, bitB_test, e]
      have : ¬ (i % 8 = j % 8) := fun e3 => e2 (by omega)
      simp [this]
  · rw [if_neg e, if_neg (fun e2 => e (by rw [e2])), bitB_test]

theorem flip_value (x : ByteArray) {i : Nat} (h : i / 8 < x.size) : (.int .u8 (bits BinOp.xor IntKind.u8 (byteN x (i / 8) : Int) (2 ^ (i % 8) % 256)) : Value) = .int .u8 ((byteN (flipB x i) (i / 8) : Nat) : Int) := by
  obtain ⟨m, hm⟩ : ∃ m, m = 2 ^ (i % 8) := ⟨_, rfl⟩
  have hp : m < 256 := by rw [hm]; exact Nat.lt_of_lt_of_le (Nat.pow_lt_pow_right (by omega) (Nat.mod_lt i (by omega : 0 < 8))) (by decide)
  have e0 : (2 : Int) ^ (i % 8) = (m : Int) := by rw [hm]; push_cast; rfl
  have e : (2 : Int) ^ (i % 8) % 256 = (m : Int) := by rw [e0]; omega
  rw [e, u8_xor_nat _ _ (byteN_lt x _) hp, byteN_flip x h, if_pos rfl, hm]
theorem flip_cell {w : World} {g : Nat} {cs : Array Value} {T : TypeId} {fr : Nat × Nat} {x : ByteArray} {i : Nat} (hod : w.heap[g]? = some (.cells cs T fr)) (hcs : ∀ j, j < x.size → cs[j]? = some (.int .u8 (byteN x j))) (hx : x.size = 256) (hi : i < 2048) (j : Nat) (hj : j < 256) :
    (w.setCell ⟨g, i / 8, none⟩ (.int .u8 ((byteN (flipB x i) (i / 8) : Nat) : Int))).cell? ⟨g, 0 + j, none⟩ = some (.int .u8 (((List.range 256).map fun j => ((byteN (flipB x i) j : Nat) : Int)).getD j 0)) := by
  have hd : i / 8 < x.size := by omega
  have hcl : i / 8 < cs.size := by
    have := hcs (i / 8) hd
    rw [Array.getElem?_eq_some_iff] at this
    exact this.1
  rw [cell_of (heap_setCell_same hod _ _), Nat.zero_add, List.getD_eq_getElem?_getD, List.getElem?_map, List.getElem?_range hj]
  simp only [Option.map_some, Option.getD_some]
  by_cases e : j = i / 8
  · subst e
    simp [hcl]
  · rw [byteN_flip x hd j, if_neg e, Array.getElem?_setIfInBounds, if_neg (fun h => e h.symm), hcs j (by omega)]
theorem strOf_bytes {s : ByteArray} (h : s.size = 256) : strOfNums ((List.range 256).map fun j => ((byteN s j : Nat) : Int)) = s := by
  unfold strOfNums
  have : (((List.range 256).map fun j => ((byteN s j : Nat) : Int)).map fun n => UInt8.ofNat n.toNat) = s.data.toList := by
    apply List.ext_getElem?
    intro j
    rw [List.map_map, List.getElem?_map]
    by_cases hj : j < 256
    · rw [List.getElem?_range hj]
      have hj' : j < s.data.toList.length := by rw [Array.length_toList]; show j < s.size; omega
      simp only [Option.map_some, Function.comp_def]
      rw [List.getElem?_eq_getElem hj']
      congr 1
      unfold byteN
      rw [List.getD_eq_getElem?_getD, List.getElem?_eq_getElem hj', Option.getD_some, Int.toNat_natCast, UInt8.ofNat_toNat]
    · rw [List.getElem?_eq_none (by simpa using hj), List.getElem?_eq_none (by rw [Array.length_toList]; show s.size ≤ j; omega)]; rfl
  rw [this]

/-- how many pages are the user's -/
def spMany (n : Int) : Nat := (jPages n - 2).toNat
theorem spMany_bd {n : Int} (h1 : 64 ≤ n) (h2 : n ≤ 2048) : 29 ≤ spMany n ∧ spMany n ≤ 1022 ∧ ((spMany n : Nat) : Int) = jPages n - 2 := by
  have := pages_many h1 h2
  have := jPages_bd n
  unfold spMany; omega
/-- may a page be asked for? -/
def spTaken (n : Int) (V : Int → ByteArray) (i : Int) : Int := if i ≤ jFirst n ∨ jFirst n + jPages n - 2 < i then 1 else if bitB (V (jFirst n)) (i - jFirst n).toNat then 0 else 8
/-- the least free one of the user's pages -/
def spNext (n : Int) (x : ByteArray) : Option Nat := (List.range (spMany n)).find? fun j => !bitB x (j + 1)

section
variable {w0 w : World} {s d : Nat} {F : Nat → Prop} {n N : Int} {V D : Int → ByteArray}
theorem SIn.size (h : SIn w0 w s d F n V D N) {i : Int} (hp : isPage n i = true) : (V i).size = 256 := by
  obtain ⟨p, S, _, hS, _⟩ := h.ex
  rw [← hS.view i hp]
  unfold Pgr.view
  cases hg : get i S.changed with
  | some x => exact (hS.ok.changed _ (get_mem hg)).2
  | none =>
    obtain ⟨b1, b2⟩ := page_lt hS.bd.1 hS.bd.2 hp
    refine hS.ok.sizes _ ?_
    have := hS.sees.n
    unfold Dsk.n at this
    unfold Dsk.blk
    rw [List.getD_eq_getElem?_getD, List.getElem?_eq_getElem (by omega)]
    exact List.getElem_mem _

set_option maxHeartbeats 1000000 in
set_option maxRecDepth 100000 in
theorem turn_sp (h : SIn w0 w s d F n V D N) (i : Nat) (hi : i < 2048) (at_ : Int) (hat : at_ = jFirst n + i) (hN : N < 2305843009213693952) :
    Calls Tryz.prog 35 #[.pointer (some ⟨s, 0, none⟩), .int .i64 at_] w fun e w' => e = .returned .nilIface ∧ SStp w0 w w' s d F n (upd V (jFirst n) (flipB (V (jFirst n)) i)) D (N + 2) := by
  subst hat
  have hbd := h.bd
  have hF := jFirst_bd n
  have hpg : isPage n (jFirst n) = true := page_in (by omega) (by have := pages_many hbd.1 hbd.2; omega)
  have hx := h.size hpg
  have hc := h.cell0
  have hC := sfirst_any s n w hc
  have H := Lib.hid h
  have hL := load_sp h hpg hN
  have HL := Lib.hid hL
  have hd : i / 8 < (V (jFirst n)).size := by omega
  have HV : Hid (∃ x, x = V (jFirst n)) := ⟨_, rfl⟩
  clear h hL hc
  generalize hxx : V (jFirst n) = x at *
  go_enter Tryz.func35, Tryz.ntmps35
  go_wp2_with (go_at_call 40; refine hC.mono ?_; rintro e w' ⟨rfl, rfl⟩)
  refine HL.out.mono ?_
  rintro e w1 ⟨rfl, hS1⟩
  have HS1 := Lib.hid hS1
  have hsl := hS1.sin.slt
  obtain ⟨w2, hw2⟩ : ∃ w2, w2 = Lib.bytesWorld w1 5 x := ⟨_, rfl⟩
  obtain ⟨g, HG⟩ : ∃ g, Hid (w1.heap.size = g) := ⟨_, Lib.hid rfl⟩
  have hB2 : Below w1.heap.size w1 w2 := by
    rw [hw2]
    exact ⟨rfl, rfl, rfl, by rw [Lib.bytesWorld_size]; omega, fun b hb => Lib.bytesWorld_at_old w1 _ x b hb⟩
  have hK := Lib.run_convert_string_bytes (P := Tryz.prog) w1 9 22 5 x Tryz.underlying9 Tryz.underlying22 Tryz.underlying5
  have hobj : w2.heap[w1.heap.size]? = some (.cells (Lib.bytesCells w1 5 x) 5 ((Lib.bytesCells w1 5 x).size, (Lib.bytesCells w1 5 x).size + 1)) := by rw [hw2]; exact Lib.bytesWorld_at_new w1 _ x
  rw [HG.out] at hobj
  rw [← hw2, HG.out] at hK
  have hcc : ∀ j, j < x.size → (Lib.bytesCells w1 5 x)[j]? = some (.int .u8 (byteN x j)) := fun j hj => by
    have h1 := Lib.bytesWorld_cell w1 5 x j hj
    rw [← hw2, HG.out] at h1
    have h2 : w2.cell? ⟨g, j, none⟩ = (Lib.bytesCells w1 5 x)[j]? := by simp [World.cell?, hobj]
    rw [← h2, h1]; rfl
  generalize Lib.bytesCells w1 5 x = cs at *
  generalize grownCap w1 x.size 0 5 = cp at *
  have hC1 := sfirst_any s n w2 (hS1.sin.made hB2).cell0
  have HB2 := Lib.hid hB2
  have hcsz : x.size ≤ cs.size := by
    by_cases h : cs.size < x.size
    · have := hcc cs.size h; simp at this
    · omega
  have HOBJ := Lib.hid hobj
  have HCC := Lib.hid hcc
  have HXX := Lib.hid hxx
  have cB : w2.cell? ⟨g, i / 8, none⟩ = some (.int .u8 (byteN x (i / 8))) := by
    have := hcc (i / 8) hd
    simp [World.cell?, hobj, this]
  have fB : w2.frozen? ⟨g, i / 8, none⟩ = false := by
    simp [World.frozen?, hobj]; omega
  have hg : g < w2.heap.size := lt_of hobj
  clear hS1 HL hw2 hB2 hobj hcc hxx
  have hbb := byteN_lt x (i / 8)
  obtain ⟨bt, HBT⟩ : ∃ bt, Hid (byteN x (i / 8) = bt) := ⟨_, Lib.hid rfl⟩
  rw [HBT.out] at hbb cB
  have HPG := Lib.hid hpg
  obtain ⟨f, HFN⟩ : ∃ f, Hid (jFirst n = f) := ⟨_, Lib.hid rfl⟩
  rw [HFN.out] at hF hC hC1 ⊢
  clear hpg
  have hfi : wrap64 (f + (i : Int) - f) = i := by rw [show f + (i : Int) - f = i by omega]; exact IntWalk.wrap64_in _ (by omega)
  have e1 : f + (i : Int) - f = i := by omega
  go_upto_region 6 with (go_at_call 40; refine hC1.mono ?_; rintro e w' ⟨rfl, rfl⟩)
  refine wp_region_still_tail 10 (by kernel_rfl) (by kernel_rfl) ?_
  generalize hwd : ({ w2 with drawn := w2.drawn + 1 } : World) = wd at *
  have cD : wd.cell? ⟨g, i / 8, none⟩ = some (.int .u8 bt) := by rw [← hwd]; exact cB
  have fD : wd.frozen? ⟨g, i / 8, none⟩ = false := by rw [← hwd]; exact fB
  have HWD := Lib.hid hwd
  clear hwd cB fB
  have hq : IntKind.i64.wrap ((i : Int) / 8) = ((i / 8 : Nat) : Int) := by rw [show ((i / 8 : Nat) : Int) = (i : Int) / 8 by omega]; exact IntWalk.i64_in _ (by omega)
  have hr : IntKind.i64.wrap ((i : Int) % 8) = ((i % 8 : Nat) : Int) := by rw [show ((i % 8 : Nat) : Int) = (i : Int) % 8 by omega]; exact IntWalk.i64_in _ (by omega)
  have hr' : (i : Int).tmod 8 = (i : Int) % 8 := Int.tmod_eq_emod_of_nonneg (by omega)
  have hi1 : (0 : Int) ≤ (i : Int) / 8 := by omega
  have hi2 : (i : Int) / 8 < 256 := by omega
  have hi3 : ((i : Int) / 8).toNat = i / 8 := by omega
  have hj1 : (0 : Int) ≤ (i : Int) % 8 := by omega
  have hj3 : ((i : Int) % 8).toNat = i % 8 := by omega
  simp only [List.take_succ_cons, List.take_zero, List.drop_succ_cons, List.drop_zero]
  repeat still_step
  refine wpStill_nil ?_
  go_upto_region 7 with fail
  have hcl : i / 8 < cs.size := by omega
  obtain ⟨w3, hw3⟩ : ∃ w3, w3 = wd.setCell ⟨g, i / 8, none⟩ (.int .u8 (bits BinOp.xor IntKind.u8 (bt : Int) (2 ^ (i % 8) % 256))) := ⟨_, rfl⟩
  rw [← hw3]
  have hv := flip_value x (i := i) (by omega)
  rw [HBT.out] at hv
  rw [hv] at hw3
  have hB3 : Below w1.heap.size w1 w3 := by
    have hb2 := HB2.out
    rw [HG.out] at hb2 ⊢
    rw [hw3, ← HWD.out]
    refine hb2.trans ((show Below g w2 { w2 with drawn := w2.drawn + 1 } from ⟨rfl, rfl, rfl, Nat.le_refl _, fun _ _ => rfl⟩).setCell (p := ⟨g, i / 8, none⟩) (Nat.le_refl g) _)
  have hcell : ∀ j, j < 256 → w3.cell? ⟨g, 0 + j, none⟩ = some (.int .u8 (((List.range 256).map fun j => ((byteN (flipB x i) j : Nat) : Int)).getD j 0)) := by
    intro j hj
    rw [hw3]
    exact flip_cell (by rw [← HWD.out]; exact HOBJ.out) HCC.out hx hi j hj
  have HB3 := Lib.hid hB3
  have HCELL := Lib.hid hcell
  clear hw3 hB3 hcell hv cD fD hq hr hr' hi1 hi2 hi3 hj1 hj3 hfi e1 HWD HCC HOBJ HBT hC hC1 hK
  refine wp_region_still_tail 5 (by kernel_rfl) (by kernel_rfl) ?_
  generalize hwd : ({ w3 with drawn := w3.drawn + 1 } : World) = w4 at *
  have hB4 : Below w1.heap.size w1 w4 := by rw [← hwd]; exact HB3.out.trans ⟨rfl, rfl, rfl, Nat.le_refl _, fun _ _ => rfl⟩
  have HS4 := Lib.hid (SStp.made H.out HS1.out hB4)
  have hc4 := sfirst_any s n w4 HS4.out.sin.cell0
  rw [HFN.out] at hc4
  have hk4 := run_convert_bytes_arg (P := Tryz.prog) w4 22 5 Tryz.underlying22 Tryz.underlying5 g 0 256 cp ((List.range 256).map fun j => ((byteN (flipB x i) j : Nat) : Int)) (by simp) (fun j hj => by rw [← hwd]; exact HCELL.out j hj) 9 Tryz.underlying9
  rw [strOf_bytes (by rw [flipB_size, hx])] at hk4
  have hst := store_sp HS4.out.sin HPG.out (flipB x i) (by rw [flipB_size, hx])
  rw [HFN.out] at hst
  have HST := Lib.hid hst
  clear hst hwd hB4 HCELL HB3 HB2
  simp only [List.take_succ_cons, List.take_zero, List.drop_succ_cons, List.drop_zero]
  repeat still_step
  still_call (hc4.mono fun _ _ ⟨a, b⟩ => ⟨a, b.symm⟩)
  repeat still_step
  refine wpStill_nil ?_
  go_wp2_with fail
  refine HST.out.mono ?_
  rintro e w5 ⟨rfl, hS5⟩
  have HS5 := Lib.hid hS5
  clear hS5 HST
  go_wp2
  go_ret
  refine ⟨rfl, ?_⟩
  have h5 := SStp.trans H.out HS4.out HS5.out
  rw [HFN.out]
  exact h5

set_option maxHeartbeats 1000000 in
set_option maxRecDepth 100000 in
theorem taken_sp (h : SIn w0 w s d F n V D N) (i : Int) (hN : N < 2305843009213693952) :
    Calls Tryz.prog 43 #[.pointer (some ⟨s, 0, none⟩), .int .i64 i] w fun e w' => ∃ v, e = .returned v ∧ ErrV w' v (spTaken n V i) ∧ SStp w0 w w' s d F n V D (N + 2) := by
  have hbd := h.bd
  have hF := jFirst_bd n
  have hP := jPages_bd n
  have hpg : isPage n (jFirst n) = true := page_in (by omega) (by have := pages_many hbd.1 hbd.2; omega)
  have hc := h.cell0
  have hC := sfirst_any s n w hc
  have hL := slast_any s n w hc
  have H := Lib.hid h
  have HPG := Lib.hid hpg
  have HX := Lib.hid (h.size hpg)
  by_cases h1 : i ≤ jFirst n
  · have e1 : spTaken n V i = 1 := by unfold spTaken; rw [if_pos (.inl h1)]
    rw [e1]
    clear h hc hL e1 hpg
    generalize jFirst n = f at *
    go_enter Tryz.func43, Tryz.ntmps43
    go_wp2_with (go_at_call 40; refine hC.mono ?_; rintro e w' ⟨rfl, rfl⟩)
    refine (fault_any _ _ _).mono ?_
    rintro e w1 ⟨v, rfl, hE, hB⟩
    have HE := Lib.hid hE
    have HB := Lib.hid hB
    clear hE hB
    go_wp2
    go_ret
    exact ⟨_, rfl, HE.out, (SStp.made H.out H.out.refl HB.out).mono (by omega)⟩
  · by_cases h2 : jFirst n + jPages n - 2 < i
    · have e1 : spTaken n V i = 1 := by unfold spTaken; rw [if_pos (.inr h2)]
      rw [e1]
      have h1' : jFirst n < i := by omega
      clear h hc e1 hpg h1
      generalize jFirst n = f at *
      generalize jPages n = pg at *
      go_enter Tryz.func43, Tryz.ntmps43
      go_wp2_with (first
        | (go_at_call 40; refine hC.mono ?_; rintro e w' ⟨rfl, rfl⟩)
        | (go_at_call 41; refine hL.mono ?_; rintro e w' ⟨rfl, k, rfl⟩))
      refine (fault_any _ _ _).mono ?_
      rintro e w1 ⟨v, rfl, hE, hB⟩
      have HE := Lib.hid hE
      have HB := Lib.hid hB
      clear hE hB
      go_wp2
      go_ret
      exact ⟨_, rfl, HE.out, (SStp.after H.out (drewN_below w _) (SStp.made (H.out.drewN k) (H.out.drewN k).refl HB.out)).mono (by omega)⟩
    · have h1' : jFirst n < i := by omega
      have h2' : i ≤ jFirst n + jPages n - 2 := by omega
      obtain ⟨j, hj⟩ : ∃ j : Nat, i = jFirst n + j := ⟨(i - jFirst n).toNat, by omega⟩
      have hj' : (i - jFirst n).toNat = j := by omega
      have hjb : j < 2048 := by omega
      have e1 : spTaken n V i = if bitB (V (jFirst n)) j then 0 else 8 := by unfold spTaken; rw [if_neg (by omega), hj']
      rw [e1]
      have HLD : Hid (∀ k, Calls Tryz.prog 39 #[.pointer (some ⟨s, 0, none⟩), .int .i64 (jFirst n)] (w.drewN k) fun e w' => e = .returned (.tuple #[.string (V (jFirst n)), .nilIface]) ∧ SStp w0 (w.drewN k) w' s d F n V D (N + 2)) :=
        fun k => load_sp (H.out.drewN k) hpg hN
      have hB : ∀ w', w'.cell? ⟨s, 0, none⟩ = some (.int .i64 n) → Calls Tryz.prog 63 #[.pointer (some ⟨s, 0, none⟩), .string (V (jFirst n)), .int .i64 i] w' fun e w'' => e = .returned (.bool (bitB (V (jFirst n)) j)) ∧ w' = w'' :=
        fun w' hc' => sbit_any s n w' hc' _ HX.out j hjb i hj
      have HB := Lib.hid hB
      have hC2 : ∀ k, Calls Tryz.prog 40 #[.pointer (some ⟨s, 0, none⟩)] (w.drewN k) fun e w' => e = .returned (.int .i64 (jFirst n)) ∧ w.drewN k = w' := fun k => sfirst_any s n _ hc
      clear h hc e1 hpg h1 h2 hB hj hj' HX
      generalize V (jFirst n) = x at *
      generalize jFirst n = f at *
      generalize jPages n = pg at *
      generalize bitB x j = b at *
      go_enter Tryz.func43, Tryz.ntmps43
      go_wp2_with (first
        | (go_at_call 40; refine hC.mono ?_; rintro e w' ⟨rfl, rfl⟩)
        | (go_at_call 41; refine hL.mono ?_; rintro e w' ⟨rfl, k, rfl⟩)
        | (go_at_call 40; refine (hC2 _).mono ?_; rintro e w' ⟨rfl, rfl⟩))
      refine (HLD.out _).mono ?_
      rintro e w1 ⟨rfl, hS⟩
      have hb := HB.out w1 hS.sin.cell0
      have HS := Lib.hid hS
      clear hS HLD HB
      cases b with
      | true =>
        go_wp2_with (go_at_call 63; refine hb.mono ?_; rintro e w' ⟨rfl, rfl⟩)
        go_ret
        exact ⟨_, rfl, .inl ⟨rfl, rfl⟩, SStp.after H.out (drewN_below w _) HS.out⟩
      | false =>
        go_wp2_with (go_at_call 63; refine hb.mono ?_; rintro e w' ⟨rfl, rfl⟩)
        refine (fault_any _ _ _).mono ?_
        rintro e w2 ⟨v, rfl, hE, hB2⟩
        have HE := Lib.hid hE
        have HB2 := Lib.hid hB2
        clear hE hB2
        go_wp2
        go_ret
        exact ⟨_, rfl, HE.out, SStp.after H.out (drewN_below w _) (SStp.made (H.out.drewN _) HS.out HB2.out)⟩
end
end Go.Proofs.YtdoankamaobkoaaGreatDoor
