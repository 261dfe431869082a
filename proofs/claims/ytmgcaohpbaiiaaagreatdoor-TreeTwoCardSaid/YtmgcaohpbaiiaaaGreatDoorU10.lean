/- A new space in memory, and what its pages show: none is taken · The fixed fact that is asked ahead of each statement on trees · The fixed fact that is asked ahead of each statement on trees: it holds. -/
import Derived.Test.YtmgcaohpbaiiaaaGreatDoorU9
namespace Go.Proofs.YtmgcaohpbaiiaaaGreatDoor
/-! TRoom -/
section
set_option linter.unusedSimpArgs false
set_option linter.unusedVariables false
open Go.RowKit Go.Maps Go.Shelf

theorem newDsk_blk {n : Nat} {i : Int} (h0 : 0 ≤ i) (h1 : i < n) : (newDsk n).blk i = zerosB 256 := by
  unfold Dsk.blk newDsk
  simp only [List.getD_eq_getElem?_getD, List.getElem?_replicate]
  rw [if_pos (by omega)]; rfl
theorem spOpened_new {n : Nat} (h : 64 ≤ n) : spOpened (newDsk n) = spLaid n (newDsk n).blk := by
  unfold spOpened
  rw [newDsk_n, newDsk_blk (by omega) (by omega), if_neg (zeros_name _)]

/-- a new disk, opened -/
theorem open_new {w0 w : World} {d bb n : Nat} {room : Int} (hB0 : Below w0.heap.size w0 w) (hg : Glob w0) (hD : DiskAt w d bb (.slice none 0 0) (newDsk n)) (hd : w0.heap.size ≤ d) (hbb : w0.heap.size ≤ bb)
    (h1 : 1 ≤ room) (h2 : room ≤ 1024) (hn1 : 64 ≤ n) (hn2 : n ≤ 2048) :
    Calls Tryz.prog 26 #[.pointer (some ⟨d, 0, none⟩), .int .i64 room] w fun e w' => ∃ s F, e = .returned (.tuple #[.pointer (some ⟨s, 0, none⟩), .int .i64 0]) ∧ SIn w0 w' s d F n (spLaid n (newDsk n).blk) (spLaid n (newDsk n).blk) 5000 ∧
      (∀ b, F b → b = d ∨ b = bb ∨ w.heap.size ≤ b) ∧ Upd (fun b => b = d ∨ b = bb) w w' := by
  have hO := open_sp (room := room) (N := 0) hB0 hg hD (fun b hb => by rcases hb with h | h | h; omega; omega; simp [Value.ownBlock] at h) h1 h2 (by rw [newDsk_n]; omega) (by simp [newDsk, zerosB_size]) ⟨rfl, rfl⟩ (by rw [newDsk_blk (by omega) (by omega), fill_nil]) (by simp [newDsk]) (by omega)
  rw [spOpened_new hn1, newDsk_n] at hO
  refine hO.mono ?_
  rintro e w' ⟨s, F, he, hS, hU, hF⟩
  refine ⟨s, F, he, hS.mono (by omega), fun b hb => ?_, hU.mono fun b _ hb => ?_⟩
  · rcases hF b hb with (h | h | h) | h
    · exact .inl h
    · exact .inr (.inl h)
    · simp [Value.ownBlock] at h
    · exact .inr (.inr h)
  · rcases hb with h | h | h
    · exact .inl h
    · exact .inr h
    · simp [Value.ownBlock] at h

/-! ### the map of a new space -/
theorem one_list : (padB ⟨#[1]⟩ 256).data.toList = 1 :: List.replicate 255 0 := by
  unfold padB
  rw [ByteArray.data_append, Array.toList_append]
  show ([1] : List UInt8) ++ List.replicate 255 0 = 1 :: List.replicate 255 0
  rfl
theorem byteN_one (k : Nat) : byteN (padB ⟨#[1]⟩ 256) k = if k = 0 then 1 else 0 := by
  unfold byteN
  rw [one_list, List.getD_eq_getElem?_getD]
  rcases k with _ | k
  · rfl
  · have hk : ¬ (k + 1 = 0) := by omega
    rw [List.getElem?_cons_succ, List.getElem?_replicate, if_neg hk]
    split <;> rfl
theorem bit_one (j : Nat) : bitB (padB ⟨#[1]⟩ 256) (j + 1) = false := by
  rw [bitB_test, byteN_one]
  split
  · rename_i h
    have : (j + 1) % 8 ≠ 0 := by omega
    obtain ⟨m, hm⟩ : ∃ m, (j + 1) % 8 = m + 1 := ⟨(j + 1) % 8 - 1, by omega⟩
    rw [hm]
    simp [Nat.testBit_succ]
  · simp
theorem spLaid_first {n : Int} (V : Int → ByteArray) : spLaid n V (jFirst n) = padB ⟨#[1]⟩ 256 := upd_same _ _ _
theorem map_laid (n : Int) (V : Int → ByteArray) : MapIs n (spLaid n V) (fun _ => false) := ⟨fun j _ => by rw [spLaid_first]; exact bit_one j⟩
/-- none of the pages is taken -/
def TS0 : TS := ⟨fun _ => none, fun _ => false⟩
theorem shows_new (n : Int) (V : Int → ByteArray) : Shows n (spLaid n V) TS0 := ⟨map_laid n V, fun at_ kind l h => by cases h⟩
set_option maxHeartbeats 2000000 in
set_option maxRecDepth 100000 in
theorem room_any {w0 w : World} (n : Nat) (h1 : 64 ≤ n) (h2 : n ≤ 2048) (hB0 : Below w0.heap.size w0 w) (hg : Glob w0) :
    Calls Tryz.prog 9 #[.int .i64 n] w fun e w' => ∃ s d F V, e = .returned (.pointer (some ⟨s, 0, none⟩)) ∧ SIn w0 w' s d F n V V 5000 ∧ (∀ b, F b → b < w'.heap.size) ∧ Shows n V TS0 := by
  have HO : Hid (∀ w' d bb, Below w.heap.size w w' → DiskAt w' d bb (.slice none 0 0) (newDsk n) → w.heap.size ≤ d → w.heap.size ≤ bb → Calls Tryz.prog 26 #[.pointer (some ⟨d, 0, none⟩), .int .i64 8] w' fun e w'' => ∃ s F, e = .returned (.tuple #[.pointer (some ⟨s, 0, none⟩), .int .i64 0]) ∧ SIn w0 w'' s d F n (spLaid n (newDsk n).blk) (spLaid n (newDsk n).blk) 5000 ∧ (∀ b, F b → b < w''.heap.size)) := fun w' d bb hB hD hd hbb => by
    have hs := hB0.size
    refine (open_new (hB0.trans (hB.mono hs)) hg hD (by omega) (by omega) (by omega) (by omega) (by omega) (by omega)).mono fun _ _ ⟨s, F, he, hS, _⟩ => ⟨s, _, he, hS.lt, fun b hb => hb.2⟩
  have HN := Lib.hid (diskNew_any n w h1 h2)
  clear hB0 hg
  generalize hz : (n : Int) = z at *
  go_enter Tryz.func9, Tryz.ntmps9
  go_wp2_with fail
  refine HN.out.mono ?_
  rintro e w1 ⟨d, bb, rfl, hD, hd, hbb, hB⟩
  have hOp := HO.out w1 d bb hB hD hd hbb
  clear hB hD hd hbb HO HN
  go_wp2_with fail
  refine hOp.mono ?_
  rintro e w2 ⟨s, F, rfl, hS, hF⟩
  clear hOp
  go_wp2
  go_ret
  exact ⟨s, d, F, _, rfl, hS, hF, shows_new _ _⟩
end
/-! TWake -/
section
set_option linter.unusedSimpArgs false
set_option linter.unusedVariables false
open Go.RowKit Go.Maps Go.Shelf

def wkA : ByteArray := ⟨#[97]⟩
def wkB : ByteArray := ⟨#[98]⟩
def wk1 : ByteArray := ⟨#[49]⟩
def wk2 : ByteArray := ⟨#[50]⟩
def TSw (l : List Ent) : TS := ⟨fun k => if k = 35 then some (1, l) else none, fun k => false || decide (k = 0)⟩
theorem wk_first : (jFirst 64).toNat = 34 := by decide
theorem wk_many : spMany 64 = 29 := by decide
theorem wk_new : newM 34 29 TS0 = some (⟨fun k => if k = 35 then some (1, []) else none, fun k => false || decide (k = 0)⟩, 35) := rfl
theorem TSw_store (l m : List Ent) (h : okB 1 m = true) : storeM 34 29 (TSw l) 35 1 m = some (TSw m) := by
  have : okM 34 29 (TSw l) 35 = true := rfl
  unfold storeM
  rw [if_pos (by rw [h, this]; rfl)]
  congr 1
  unfold TSw
  congr 1
  funext k
  by_cases hk : k = 35
  · simp [hk]
  · simp [hk]
theorem TSw_load (l : List Ent) : loadM (TSw l) 35 = some (1, l) := by simp [loadM, TSw]
theorem TSw_put (l : List Ent) (key value : ByteArray) (h : okB 1 (lPut l key value) = true) : ∃ ps, putM 34 29 35 key value 66 (TSw l) 35 = some (TSw (lPut l key value), ps) := by
  unfold putM finM
  have hs : lSize (lPut l key value) ≤ 256 := by
    simp [okB] at h
    exact h.2.2
  simp only [TSw_load, Option.bind_some, if_true, if_pos hs, TSw_store l _ h, Option.map_some]
  exact ⟨_, rfl⟩
theorem wk_lt : ltB wkB wkA = false := by rw [ltB_eq]; decide
theorem wk_lt2 : ltB wkA wkA = false := by rw [ltB_eq]; decide
theorem wk_lt3 : ltB wkA wkB = true := by rw [ltB_eq]; decide
theorem wk_lt4 : ltB wkA ⟨#[]⟩ = false := by rw [ltB_eq]; decide
theorem wk_lt5 : ltB wkB ⟨#[]⟩ = false := by rw [ltB_eq]; decide
theorem wk_ne : ¬ wkB = wkA := by decide
theorem wk_l1 : lPut [] wkB wk1 = [(wkB, wk1)] := rfl
theorem wk_l2 : lPut [(wkB, wk1)] wkA wk2 = [(wkA, wk2), (wkB, wk1)] := by simp [lPut, lHas, lIx, wk_lt, wk_ne, insL]
theorem wk_h3 : lHas [(wkA, wk2), (wkB, wk1)] wkA = true := by simp [lHas, lIx, wk_lt, wk_lt2]
theorem wk_l3 : lTake [(wkA, wk2), (wkB, wk1)] wkA = [(wkB, wk1)] := by simp [lTake, wk_h3, lIx, wk_lt, wk_lt2]
theorem wk_x : lIx [(wkA, wk2), (wkB, wk1)] ⟨#[]⟩ = 0 := by simp [lIx, wk_lt4, wk_lt5]
theorem wk_o1 : okB 1 [(wkB, wk1)] = true := by decide
theorem wk_o2 : okB 1 [(wkA, wk2), (wkB, wk1)] = true := by
  have h1 : inB (wkA, wk2) = true := by decide
  have h2 : inB (wkB, wk1) = true := by decide
  have h3 : lSize [(wkA, wk2), (wkB, wk1)] = 10 := by decide
  simp [okB, h1, h2, h3, ascB, wk_lt3]
section
variable {w0 w W : World} {s dk t root : Nat} {F : Nat → Prop} {N : Int} {V D : Int → ByteArray} {l : List Ent}
theorem wk_new_at (h : SIn w0 w s dk F 64 V D N) (hlt : ∀ b, F b → b < w.heap.size) (hS : Shows 64 V TS0) (hN : N < 1000000) :
    Calls Tryz.prog 10 #[.pointer (some ⟨s, 0, none⟩)] w fun e w' => ∃ F' V', e = .returned (.tuple #[.int .i64 35, .int .i64 0]) ∧ TSt w0 w w' s dk F F' 64 V' D (N + 8) ∧ Shows 64 V' (TSw []) := by
  have := tnew_any h hlt hS 35 (by rw [wk_first, wk_many]; exact wk_new) (by omega)
  exact this
theorem wk_put_at (h : TIn w0 w s dk F 64 V D N t 35 (TSw l)) (key value : ByteArray) (l' : List Ent) (hl : lPut l key value = l') (ho : okB 1 l' = true) (hk : key.size ≤ 32) (hv : value.size ≤ 64) (hk0 : key.toList.isEmpty = false) (hN : N < 1000000) :
    Calls Tryz.prog 18 #[.pointer (some ⟨t, 0, none⟩), .string key, .string value] w fun e w' => ∃ F' V', e = .returned (.int .i64 0) ∧ TRun w0 w w' s dk F F' 64 V' D (N + 6600) t 35 (TSw l') := by
  subst hl
  obtain ⟨ps, hp⟩ := TSw_put l key value ho
  exact tput_api h key value hk hv hk0 ps (by rw [wk_first, wk_many]; exact hp) (by omega)
theorem wk_del_at (h : TIn w0 w s dk F 64 V D N t 35 (TSw [(wkA, wk2), (wkB, wk1)])) (hN : N < 1000000) :
    Calls Tryz.prog 16 #[.pointer (some ⟨t, 0, none⟩), .string wkA] w fun e w' => ∃ F' V', e = .returned (.tuple #[.bool true, .int .i64 0]) ∧ TRun w0 w w' s dk F F' 64 V' D (N + 12) t 35 (TSw [(wkB, wk1)]) :=
  tdel_leaf h wkA _ _ (TSw_load _) wk_h3 (by rw [wk_first, wk_many, wk_l3]; exact TSw_store _ _ wk_o1) (TSw_load _) (by omega)
theorem wk_list_at (h : TIn w0 w s dk F 64 V D N t 35 (TSw [(wkA, wk2), (wkB, wk1)])) (hN : N < 1000000) :
    Calls Tryz.prog 13 #[.pointer (some ⟨t, 0, none⟩), .string ⟨#[]⟩, .int .i64 9] w fun e w' => ∃ F' v, e = .returned (.tuple #[v, .int .i64 0]) ∧ TIn w0 w' s dk F' 64 V D (N + 4) t 35 (TSw [(wkA, wk2), (wkB, wk1)]) ∧ EOwn w' w.heap.size v [(wkA, wk2), (wkB, wk1)] ∧ (∀ b, v.ownBlock = some b → ¬ F' b) := by
  have := tlist_leaf h _ (TSw_load _) (by simp) ⟨#[]⟩ 9 (by simp) (by omega) (by omega)
  rw [wk_x] at this
  exact this
end
end
/-! TWakes -/
section
set_option linter.unusedSimpArgs false
set_option linter.unusedVariables false
open Go.RowKit Go.Maps Go.Shelf

theorem wk_e1 : wkA.toList.isEmpty = false := by rw [ByteArray.toList_eq]; rfl
theorem wk_e2 : wkB.toList.isEmpty = false := by rw [ByteArray.toList_eq]; rfl
theorem ints_one {W : World} {B : Nat} {ao : Option Addr} {co : Nat} {i : Int} (h : W.ownsRow B 3 1 (.slice ao 1 co) 1 [.int .i64 i]) : ∃ g, ao = some ⟨g, 0, none⟩ ∧ W.cell? ⟨g, 0, none⟩ = some (.int .i64 i) := by
  rcases h.2 with ⟨hv, h0⟩ | ⟨g, cap, cur, hv, hb, hg, hn, hm, hs, ht⟩
  · omega
  · simp at hv
    obtain ⟨rfl, rfl⟩ := hv
    exact ⟨g, rfl, by rw [h.cellAt 0 (by omega)]; rfl⟩
theorem Row.two {W : World} {F : Nat → Prop} {B : Nat} {v : Value} {x y : Ent} (h : Row W F B v [x, y]) : ∃ g c, v = .slice (some ⟨g, 0, none⟩) 2 c ∧ W.cell? ⟨g, 0, none⟩ = some (.string x.1) ∧ W.cell? ⟨g, 0 + 1, none⟩ = some (.string x.2) := by
  obtain ⟨ao, c, hv, hr, h1, h2, -⟩ := h.parts
  obtain ⟨g, off, e, c1, c2⟩ := hr.at (i := 0) (by simp)
  subst e
  obtain ⟨ao2, c3, hv2, hr2, -⟩ := h.own.parts
  have ho := h.own
  rw [hv] at ho
  obtain ⟨g', cur, e, -⟩ := ho.block
  injection e with e1 e2
  subst e1; subst e2
  exact ⟨g, c, hv, by simpa using c1, by simpa using c2⟩
set_option maxHeartbeats 4000000 in
set_option maxRecDepth 100000 in
theorem twakes_any (w : World) (hg : Glob w) : Calls Tryz.prog 8 #[] w fun e w' => e = .returned (.bool true) ∧ Below w.heap.size w w' := by
  have HR := Lib.hid (room_any (w0 := w) (w := w) 64 (by omega) (by omega) (Below.refl _ _) hg)
  clear hg
  go_enter Tryz.func8, Tryz.ntmps8
  go_wp2_with fail
  refine HR.out.mono ?_
  rintro e w1 ⟨s, d, F1, V1, rfl, hS, hF, hV⟩
  have h2 := wk_new_at hS hF hV (by omega)
  clear HR hS hF hV
  go_wp2_with fail
  refine h2.mono ?_
  rintro e w2 ⟨F2, V2, rfl, hT, hV⟩
  have HT := Lib.hid hT.sin
  have HL := Lib.hid hT.lt
  have HV := Lib.hid hV
  have ha := at_any (s := s) 35 w2
  clear h2 hT hV
  go_wp2_with fail
  refine ha.mono ?_
  rintro e w3 ⟨rfl, hw3⟩
  have h3 := TIn.at_new HT.out HL.out HV.out 35
  rw [← hw3] at h3
  have h4 := wk_put_at h3 wkB wk1 _ wk_l1 wk_o1 (by decide) (by decide) wk_e2 (by omega)
  clear ha hw3 HT HL HV h3
  go_wp2_with fail
  refine h4.mono ?_
  rintro e w4 ⟨F4, V4, rfl, hr⟩
  have h5 := wk_put_at hr.tin wkA wk2 _ wk_l2 wk_o2 (by decide) (by decide) wk_e1 (by omega)
  clear h4 hr
  go_wp2_with fail
  refine h5.mono ?_
  rintro e w5 ⟨F5, V5, rfl, hr⟩
  have h6 := wk_list_at hr.tin (by omega)
  clear h5 hr
  go_wp2_with fail
  refine h6.mono ?_
  rintro e w6 ⟨F6, v, rfl, ht, ho, hof⟩
  have hR6 : Row w6 F6 w5.heap.size v [(wkA, wk2), (wkB, wk1)] := ⟨ho, hof⟩
  have h7 := wk_del_at ht (by omega)
  have HR6 := Lib.hid hR6
  clear h6 ht ho hof hR6
  go_wp2_with fail
  refine h7.mono ?_
  rintro e w7 ⟨F7, V7, rfl, hr⟩
  have hR7 := hr.tst.keeps _ _ _ HR6.out
  have h8 := tpages_leaf hr.tin _ (TSw_load _) (by simp) (by omega)
  have HR7 := Lib.hid hR7
  clear h7 hr HR6 hR7
  go_wp2_with fail
  refine h8.mono ?_
  rintro e w8 ⟨F8, ao, co, rfl, hr, ho⟩
  obtain ⟨g1, rfl, c1⟩ := ints_one ho
  have hR8 := hr.tst.keeps _ _ _ HR7.out
  obtain ⟨g2, c2, rfl, b1, b2⟩ := hR8.two
  have HB := Lib.hid hr.tin.sin.below
  clear h8 hr ho HR7 hR8
  have e1 : wkA = ⟨#[97]⟩ := rfl
  have e2 : wk2 = ⟨#[50]⟩ := rfl
  simp only [e1, e2] at b1 b2
  clear e1 e2
  have b3 : w8.cell? ⟨g2, 1, none⟩ = some (.string ⟨#[50]⟩) := b2
  go_wp2
  go_ret
  exact ⟨rfl, HB.out⟩
end
end Go.Proofs.YtmgcaohpbaiiaaaGreatDoor
