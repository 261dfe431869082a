/- space.Open of a disk that is up and whose journal is done. -/
import Derived.Test.YtdoankamaobkoaaGreatDoorSp4
import Derived.Test.YtdoankamaobkoaaGreatDoorGet
import Derived.Deep.DeepCutAuto
set_option linter.unusedSimpArgs false
set_option linter.unusedVariables false
namespace Go.Proofs.YtdoankamaobkoaaGreatDoor
open Go.RowKit Go.Maps Go.Shelf

set_option maxRecDepth 100000 in
theorem told_none (d : Addr) (x : ByteArray) (w : World) (hx : x.size = 256) (hne : x.extract 0 4 ≠ jMark) :
    Calls Tryz.prog 81 #[.pointer (some d), .string x] w fun e w' => e = .returned (.tuple #[.slice none 0 0, .int .i64 0]) ∧ w = w' := by
  have hG := get_any x 4 2 w (by omega) (by omega) (by omega) (by omega)
  have hP := prefix_not x jMark w hx rfl hne
  clear hne
  unfold jMark at hP
  go_enter Tryz.func81, Tryz.ntmps81
  go_wp2_with (first
    | (go_at_call 106; refine hG.mono ?_; rintro e w' ⟨rfl, rfl⟩)
    | (go_at_call 75; refine hP.mono ?_; rintro e w' ⟨rfl, rfl⟩))
  go_ret2
  exact ⟨rfl, rfl⟩

theorem fill_nil : fill ⟨#[]⟩ = zerosB 256 := by
  unfold fill padB
  apply ByteArray.ext
  rw [ByteArray.data_append]
  simp [ByteArray.size]
theorem zeros_extract {n k : Nat} (h : k ≤ n) : (zerosB n).extract 0 k = zerosB k := by
  apply ByteArray.ext
  apply Array.ext'
  simp only [zerosB, ByteArray.data_extract, Array.toList_extract, List.extract_eq_take_drop, List.drop_zero, Nat.sub_zero, List.take_replicate]
  rw [Nat.min_eq_left h]
theorem byteN_zeros (n i : Nat) : byteN (zerosB n) i = 0 := by
  unfold byteN zerosB
  simp only [List.getD_eq_getElem?_getD, List.getElem?_replicate]
  split <;> rfl
theorem fill_mark : (fill ⟨#[]⟩).extract 0 4 ≠ jMark := by
  rw [fill_nil, zeros_extract (by omega)]
  intro h
  have h1 : byteN (zerosB 4) 0 = byteN jMark 0 := by rw [h]
  rw [byteN_zeros] at h1
  exact absurd h1 (by decide)
theorem zeros_name (n : Int) : (zerosB 256).extract 0 8 ≠ spName n := by
  rw [zeros_extract (by omega)]
  intro h
  have h1 : byteN (zerosB 8) 0 = byteN (spName n) 0 := by rw [h]
  rw [byteN_zeros] at h1
  have h2 : byteN (spName n) 0 = 97 := by
    unfold spName byteN
    rw [ByteArray.data_append]
    simp
  omega

theorem recover_none {w : World} {d bb : Nat} {lg : Value} {D : Dsk} (h : DiskAt w d bb lg D) (hr : D.read 1 = (fill ⟨#[]⟩, 0)) :
    Calls Tryz.prog 48 #[.pointer (some ⟨d, 0, none⟩)] w fun e w' => e = .returned (.tuple #[.int .i64 0, .int .i64 0]) ∧ w = w' := by
  have hR := read_any h 1
  rw [hr] at hR
  have hT := told_none ⟨d, 0, none⟩ (fill ⟨#[]⟩) w (padB_size (by decide)) fill_mark
  clear h hr
  simp only at hR
  generalize fill ⟨#[]⟩ = x at *
  go_enter Tryz.func48, Tryz.ntmps48
  go_wp2_with (first
    | (go_at_call 80; refine hR.mono ?_; rintro e w' ⟨rfl, rfl⟩)
    | (go_at_call 81; refine hT.mono ?_; rintro e w' ⟨rfl, rfl⟩))
  go_ret2
  exact ⟨rfl, rfl⟩

/-- a disk that is laid out -/
def spLaid (n : Int) (V : Int → ByteArray) : Int → ByteArray := upd (upd V 0 (padB (spName n) 256)) (jFirst n) (padB ⟨#[1]⟩ 256)
section
variable {w0 w : World} {s d : Nat} {F : Nat → Prop} {n N : Int} {V D : Int → ByteArray}
theorem SIn.pager (h : SIn w0 w s d F n V D N) {p : Nat} (hp : w.cell? ⟨s, 1, none⟩ = some (.pointer (some ⟨p, 0, none⟩))) :
    ∃ S, PIn w0 w p d F S ∧ Sp S n V D N ∧ w.heap[s]? = some (.cells #[.int .i64 n, .pointer (some ⟨p, 0, none⟩)] 76 (0, 0)) := by
  obtain ⟨q, S, hP, hS, hc⟩ := h.ex
  rw [cell_of hc 1] at hp
  simp at hp
  subst hp
  exact ⟨S, hP, hS, hc⟩
theorem SIn.step {w' : World} {V' D' : Int → ByteArray} {N' : Int} {p : Nat} {S' : Pgr} (h : SIn w0 w s d F n V D N) (hc : w.heap[s]? = some (.cells #[.int .i64 n, .pointer (some ⟨p, 0, none⟩)] 76 (0, 0)))
    (hP : PIn w0 w' p d (ext F w w') S') (hS : Sp S' n V' D' N') (hU : Upd F w w') : SStp w0 w w' s d F n V' D' N' := by
  refine ⟨⟨⟨p, S', hP, hS, (hU.block s (lt_of hc) h.out).trans hc⟩, h.new, fun hx => ?_, h.glob⟩, hU⟩
  rcases hx with hx | hx
  · exact h.out hx
  · have := lt_of hc; omega
theorem SStp.cell {w' : World} {V' D' : Int → ByteArray} {N' : Int} (h : SIn w0 w s d F n V D N) (k : SStp w0 w w' s d F n V' D' N') (i : Nat) : w'.cell? ⟨s, i, none⟩ = w.cell? ⟨s, i, none⟩ :=
  k.upd.cell (p := ⟨s, i, none⟩) h.slt h.out
theorem pstore_sp (h : SIn w0 w s d F n V D N) {p : Nat} (hp : w.cell? ⟨s, 1, none⟩ = some (.pointer (some ⟨p, 0, none⟩))) {i : Int} (hi : isPage n i = true) (x : ByteArray) (hx : x.size = 256) :
    Calls Tryz.prog 67 #[.pointer (some ⟨p, 0, none⟩), .int .i64 i, .string x] w fun e w' => e = .returned (.int .i64 0) ∧ SStp w0 w w' s d F n (upd V i x) D N := by
  obtain ⟨S, hP, hS, hc⟩ := h.pager hp
  have hb := isPage_bd hi
  obtain ⟨l1, l2⟩ := hS.store hi hx
  have hL := store_in hP i x (wf_small (by omega)) (by omega)
  rw [l1] at hL
  exact hL.mono fun _ _ ⟨he, hP1, hU⟩ => ⟨he, h.step hc hP1 l2 hU⟩
theorem pcommit_sp (h : SIn w0 w s d F n V D N) {p : Nat} (hp : w.cell? ⟨s, 1, none⟩ = some (.pointer (some ⟨p, 0, none⟩))) (hN : N < 900000000000) :
    Calls Tryz.prog 42 #[.pointer (some ⟨p, 0, none⟩)] w fun e w' => e = .returned (.int .i64 0) ∧ SStp w0 w w' s d F n V V (N + 4000) := by
  obtain ⟨S, hP, hS, hc⟩ := h.pager hp
  obtain ⟨l1, l2⟩ := hS.commit
  have hL := commit_in hP (fun h => by rw [hS.sees.up.told] at h; cases h) (by have := hS.sees.log; omega) (by have := hS.sees.clock; omega)
  rw [l1] at hL
  exact hL.mono fun _ _ ⟨he, hP1, hU⟩ => ⟨he, h.step hc hP1 l2 hU⟩
theorem pload_sp (h : SIn w0 w s d F n V D N) {p : Nat} (hp : w.cell? ⟨s, 1, none⟩ = some (.pointer (some ⟨p, 0, none⟩))) {i : Int} (hi : isPage n i = true) (hN : N < 2305843009213693952) :
    Calls Tryz.prog 50 #[.pointer (some ⟨p, 0, none⟩), .int .i64 i] w fun e w' => e = .returned (.tuple #[.string (V i), .int .i64 0]) ∧ SStp w0 w w' s d F n V D (N + 2) := by
  obtain ⟨S, hP, hS, hc⟩ := h.pager hp
  have hb := isPage_bd hi
  have hck := hS.sees.clock
  have hrd := hS.sees.reads
  obtain ⟨l1, l2⟩ := hS.load hi
  have hL := load_in hP i (wf_small (by omega)) (by omega) (by omega)
  rw [l1] at hL
  exact hL.mono fun _ _ ⟨he, hP1, hU⟩ => ⟨he, h.step hc hP1 l2 hU⟩

set_option maxHeartbeats 1000000 in
set_option maxRecDepth 100000 in
theorem lay_sp (h : SIn w0 w s d F n V D N) (hN : N < 900000000000) :
    Calls Tryz.prog 52 #[.pointer (some ⟨s, 0, none⟩)] w fun e w' => e = .returned (.int .i64 0) ∧ SStp w0 w w' s d F n (spLaid n V) (spLaid n V) (N + 4000) := by
  have H := Lib.hid h
  have hbd := h.bd
  have HNm := Lib.hid (sname_any s n w h.cell0 hbd.1 hbd.2)
  have hns := spName_size n
  have HPF := Lib.hid h.first
  have hFb := jFirst_bd n
  have HZ1 : Hid ((padB (spName n) 256).size = 256) := padB_size (by omega)
  have HZ2 : Hid ((padB ⟨#[1]⟩ 256).size = 256) := padB_size (by decide)
  have HPd1 : Hid (∀ w', Calls Tryz.prog 36 #[.string (spName n), .int .i64 (256 : Nat)] w' fun e w'' => e = .returned (.tuple #[.string (padB (spName n) 256), .int .i64 0]) ∧ Below w'.heap.size w' w'') := fun w' => pad_any _ 256 w' (by omega) (by omega)
  have HPd2 : Hid (∀ w', Calls Tryz.prog 36 #[.string ⟨#[1]⟩, .int .i64 (256 : Nat)] w' fun e w'' => e = .returned (.tuple #[.string (padB ⟨#[1]⟩ 256), .int .i64 0]) ∧ Below w'.heap.size w' w'') := fun w' => pad_any _ 256 w' (by decide) (by omega)
  have HLD : Hid (spLaid n V = upd (upd V 0 (padB (spName n) 256)) (jFirst n) (padB ⟨#[1]⟩ 256)) := rfl
  rw [HLD.out]
  clear h HLD
  generalize padB (spName n) 256 = hd at *
  generalize padB ⟨#[1]⟩ 256 = bt at *
  go_enter Tryz.func52, Tryz.ntmps52
  go_wp2_with fail
  refine HNm.out.mono ?_
  rintro e w1 ⟨rfl, hB⟩
  have HB1 := Lib.hid hB
  clear hB HNm
  go_wp2_with fail
  refine (HPd1.out w1).mono ?_
  rintro e w2 ⟨rfl, hB⟩
  have HB2 := Lib.hid (HB1.out.trans (hB.mono HB1.out.size))
  clear hB HPd1 HB1
  go_wp2_with fail
  refine (HPd2.out w2).mono ?_
  rintro e w3 ⟨rfl, hB⟩
  have HB3 := Lib.hid (HB2.out.trans (hB.mono HB2.out.size))
  have hS3 := H.out.made HB3.out
  have HS3 := Lib.hid hS3
  clear hB HPd2 HB2
  obtain ⟨p, hp3⟩ : ∃ p : Nat, w3.cell? ⟨s, 1, none⟩ = some (.pointer (some ⟨p, 0, none⟩)) := by
    obtain ⟨p, S, hP, hS, hc⟩ := hS3.ex
    exact ⟨p, by rw [cell_of hc]; rfl⟩
  have HST := Lib.hid (pstore_sp hS3 hp3 (page_zero n) hd HZ1.out)
  clear hS3
  go_wp2_with fail
  refine HST.out.mono ?_
  rintro e w4 ⟨rfl, hS4⟩
  have HS4 := Lib.hid hS4
  have hp4 := (SStp.cell HS3.out hS4 1).trans hp3
  clear hS4 HST hp3
  go_upto_region 4 with fail
  refine wp_region_still_tail 7 (by kernel_rfl) (by kernel_rfl) ?_
  generalize hwd : ({ w4 with drawn := w4.drawn + 1 } : World) = w5 at *
  have hB5 : Below w4.heap.size w4 w5 := by rw [← hwd]; exact ⟨rfl, rfl, rfl, Nat.le_refl _, fun _ _ => rfl⟩
  have hp5 : w5.cell? ⟨s, 1, none⟩ = some (.pointer (some ⟨p, 0, none⟩)) := by rw [← hwd]; exact hp4
  have HS5 := Lib.hid (SStp.made HS3.out HS4.out hB5)
  have hf5 := sfirst_any s n w5 HS5.out.sin.cell0
  have HST := Lib.hid (pstore_sp HS5.out.sin hp5 HPF.out bt HZ2.out)
  clear hwd hB5 hp4 HS4
  simp only [List.take_succ_cons, List.take_zero, List.drop_succ_cons, List.drop_zero]
  repeat still_step
  still_call (hf5.mono fun _ _ ⟨a, b⟩ => ⟨a, b.symm⟩)
  repeat still_step
  refine wpStill_nil ?_
  go_wp2_with fail
  refine HST.out.mono ?_
  rintro e w6 ⟨rfl, hS6⟩
  have HS6 := Lib.hid (SStp.trans HS3.out HS5.out hS6)
  have hp6 := (SStp.cell HS5.out.sin hS6 1).trans hp5
  have HCM := Lib.hid (pcommit_sp hS6.sin hp6 hN)
  have HS6' := Lib.hid hS6
  clear hS6 HST hp5 hf5
  go_wp2_with fail
  refine HCM.out.mono ?_
  rintro e w7 ⟨rfl, hS7⟩
  have HS7 := Lib.hid (SStp.trans HS5.out.sin HS6'.out hS7)
  clear hS7 HCM
  go_wp2
  go_ret
  exact ⟨rfl, SStp.after H.out HB3.out (SStp.trans HS3.out HS5.out HS7.out)⟩
end
theorem sp_new {D : Dsk} {room N : Int} (h1 : 1 ≤ room) (h2 : room ≤ 1024) (hb : 64 ≤ D.n ∧ D.n ≤ 2048) (hs : ∀ s ∈ D.blocks, s.size = 256) (hup : D.Up) (hj : D.blk 1 = fill ⟨#[]⟩) (hN : (D.log.length : Int) ≤ N) : Sp (newPgr D room) D.n D.blk D.blk N := by
  have hn : 64 ≤ D.blocks.length ∧ D.blocks.length ≤ 2048 := by unfold Dsk.n at hb; omega
  exact ⟨newPgr_ok h1 h2 hn hs, ⟨by intro q hq; simp [newPgr] at hq, hup, rfl, rfl, by simp [newPgr]; omega, by simp [newPgr]; omega, by intro q hq; simp [newPgr] at hq, hN⟩, fun i _ => rfl, fun i _ => rfl, hj⟩

theorem bytes_neq {x y : ByteArray} (h : x ≠ y) : (x.toList == y.toList) = false := by
  rw [ByteArray.toList_eq, ByteArray.toList_eq]
  simp only [beq_eq_false_iff_ne, ne_eq]
  intro e
  apply h
  have := Array.toList_inj.1 e
  cases x; cases y; simp_all
/-- what Open leaves -/
def spOpened (D : Dsk) : Int → ByteArray := if (D.blk 0).extract 0 8 = spName D.n then D.blk else spLaid D.n D.blk
set_option maxHeartbeats 2000000 in
set_option maxRecDepth 100000 in
theorem open_sp {w0 w : World} {d bb : Nat} {lg : Value} {D : Dsk} {room N : Int} (hB0 : Below w0.heap.size w0 w) (hg : Glob w0) (hD : DiskAt w d bb lg D) (hF0 : ∀ b, b = d ∨ b = bb ∨ lg.ownBlock = some b → w0.heap.size ≤ b)
    (h1 : 1 ≤ room) (h2 : room ≤ 1024) (hb : 64 ≤ D.n ∧ D.n ≤ 2048) (hs : ∀ s ∈ D.blocks, s.size = 256) (hup : D.Up) (hj : D.blk 1 = fill ⟨#[]⟩) (hN : (D.log.length : Int) ≤ N) (hNN : N < 800000000000) :
    Calls Tryz.prog 19 #[.pointer (some ⟨d, 0, none⟩), .int .i64 room] w fun e w' => ∃ s F, e = .returned (.tuple #[.pointer (some ⟨s, 0, none⟩), .int .i64 0]) ∧ SIn w0 w' s d F D.n (spOpened D) (spOpened D) (N + 5000) ∧
      Upd (fun b => b = d ∨ b = bb ∨ lg.ownBlock = some b) w w' ∧ (∀ b, F b → (b = d ∨ b = bb ∨ lg.ownBlock = some b) ∨ w.heap.size ≤ b) := by
  have hbl : 64 ≤ D.blocks.length ∧ D.blocks.length ≤ 2048 := by unfold Dsk.n at hb; omega
  have HSp := Lib.hid (sp_new h1 h2 hb hs hup hj hN)
  have HNw := Lib.hid (pagerNew_ok hD room h1 h2 hbl hs)
  have hr1 : D.read 1 = (fill ⟨#[]⟩, 0) := by
    unfold Dsk.read
    have : D.may 1 = 0 := by unfold Dsk.may; rw [if_neg (by simp [hup.down]), if_neg (by omega)]
    rw [if_pos this, ← hj]; rfl
  have HRC : Hid (∀ w', DiskAt w' d bb lg D → Calls Tryz.prog 48 #[.pointer (some ⟨d, 0, none⟩)] w' fun e w'' => e = .returned (.tuple #[.int .i64 0, .int .i64 0]) ∧ w' = w'') := fun w' h => recover_none h hr1
  have HLN : Hid (∀ w', DiskAt w' d bb lg D → Calls Tryz.prog 49 #[.pointer (some ⟨d, 0, none⟩)] w' fun e w'' => e = .returned (.int .i64 D.n) ∧ w' = w'') := fun w' h => len_any h
  have HDK : Hid (∀ w', Below w.heap.size w w' → DiskAt w' d bb lg D) := fun w' hB => hD.keep fun b _ _ _ hb' _ _ => hB.block b (lt_of hb')
  have HB0 := Lib.hid hB0
  have HG := Lib.hid hg
  have HF0 := Lib.hid hF0
  have HBD := Lib.hid hb
  have HDL0 : Hid (d < w.heap.size ∧ bb < w.heap.size ∧ ∀ k, lg.ownBlock = some k → k < w.heap.size) := ⟨lt_of hD.d, lt_of hD.bb, fun k hk => hD.fp_lt (.inr (.inr hk))⟩
  clear hr1 hj hup hs hbl hD hB0 hg hF0 hb hN
  go_enter Tryz.func19, Tryz.ntmps19
  go_wp2_with fail
  refine HNw.out.mono ?_
  rintro e w1 ⟨p, rfl, hp, hP, hB⟩
  have HP := Lib.hid hP
  have HB1 := Lib.hid hB
  have HDL : Hid (d < w1.heap.size ∧ bb < w1.heap.size ∧ ∀ k, lg.ownBlock = some k → k < w1.heap.size) := by
    obtain ⟨a, b, c⟩ := HDL0.out
    have := hB.size
    exact ⟨by omega, by omega, fun k hk => by have := c k hk; omega⟩
  have hrc := HRC.out w1 (HDK.out w1 hB)
  have hln := HLN.out w1 (HDK.out w1 hB)
  clear hP hB HNw HRC HLN HDK
  go_wp2_with (first
    | (go_at_call 48; refine hrc.mono ?_; rintro e w' ⟨rfl, rfl⟩)
    | (go_at_call 49; refine hln.mono ?_; rintro e w' ⟨rfl, rfl⟩))
  have hI0 : SIn w0 (w1.alloc (.cells #[.int .i64 D.n, .pointer (some ⟨p, 0, none⟩)] 76)) w1.heap.size d (fun b => (b = d ∨ b = bb ∨ lg.ownBlock = some b) ∨ (w.heap.size ≤ b ∧ b < w1.heap.size)) D.n D.blk D.blk N := by
    have hs0 := HB0.out.size
    have hs1 := HB1.out.size
    have hP1 : PIn w0 w1 p d (fun b => (b = d ∨ b = bb ∨ lg.ownBlock = some b) ∨ (w.heap.size ≤ b ∧ b < w1.heap.size)) (newPgr D room) :=
      ⟨HP.out, fun b hb => by rcases hb with hb | hb; exact HF0.out b hb; omega, HB0.out.trans (HB1.out.mono hs0)⟩
    refine ⟨⟨p, _, hP1.alloc _, HSp.out, heap_alloc_new' _ _⟩, by omega, fun hx => ?_, HG.out⟩
    rcases hx with hx | hx
    · have : w1.heap.size < w1.heap.size := by
        obtain ⟨a, b, c⟩ := HDL.out
        rcases hx with hx | hx | hx
        · omega
        · omega
        · exact c _ hx
      omega
    · omega
  have hp2 : (w1.alloc (.cells #[.int .i64 D.n, .pointer (some ⟨p, 0, none⟩)] 76)).cell? ⟨w1.heap.size, 1, none⟩ = some (.pointer (some ⟨p, 0, none⟩)) := by rw [cell_new]; rfl
  have hLD := pload_sp hI0 hp2 (page_zero D.n) (by omega)
  have HLD := Lib.hid hLD
  have HI0 := Lib.hid hI0
  have HF1 : Hid (Below w.heap.size w (w1.alloc (.cells #[.int .i64 D.n, .pointer (some ⟨p, 0, none⟩)] 76)) ∧ w.heap.size ≤ w1.heap.size) := ⟨HB1.out.trans (((Below.refl _ w1).alloc (Nat.le_refl _) _).mono HB1.out.size), HB1.out.size⟩
  clear hrc hln hLD hI0 hp2 HP HB1 HB0 HSp
  generalize (w1.alloc (.cells #[.int .i64 D.n, .pointer (some ⟨p, 0, none⟩)] 76)) = w2 at *
  generalize w1.heap.size = s at *
  refine HLD.out.mono ?_
  rintro e w3 ⟨rfl, hS3⟩
  have HS3 := Lib.hid hS3
  have HFX : Hid ((∀ b, ((b = d ∨ b = bb ∨ lg.ownBlock = some b) ∨ w.heap.size ≤ b ∧ b < s) → (b = d ∨ b = bb ∨ lg.ownBlock = some b) ∨ w.heap.size ≤ b) ∧ (∀ b, b < w.heap.size → ((b = d ∨ b = bb ∨ lg.ownBlock = some b) ∨ w.heap.size ≤ b ∧ b < s) → (b = d ∨ b = bb ∨ lg.ownBlock = some b))) :=
    ⟨fun b hb => hb.imp id (fun h => h.1), fun b hb h => h.elim id (fun h => by omega)⟩
  clear hS3 HLD
  generalize hF : (fun b => (b = d ∨ b = bb ∨ lg.ownBlock = some b) ∨ (w.heap.size ≤ b ∧ b < s)) = F0 at *
  have HFX2 : Hid ((∀ b, F0 b → (b = d ∨ b = bb ∨ lg.ownBlock = some b) ∨ w.heap.size ≤ b) ∧ (∀ b, b < w.heap.size → F0 b → (b = d ∨ b = bb ∨ lg.ownBlock = some b))) := by rw [← hF]; exact HFX.out
  have HU3 : Hid (Upd (fun b => b = d ∨ b = bb ∨ lg.ownBlock = some b) w w3) := (Upd.below HF1.out.1 (fun x hx hle => by omega)).then HS3.out.upd (fun x hx hf => HFX2.out.2 x hx hf)
  have HS2 := Lib.hid HF1.out.1.size
  clear hF HFX HF1
  have HNm := Lib.hid (sname_any s D.n w3.drew HS3.out.sin.cell0 HBD.out.1 HBD.out.2)
  have hx0 := HI0.out.size (page_zero D.n)
  have hnz := spName_size D.n
  by_cases hname : (D.blk 0).extract 0 8 = spName D.n
  · have HOP : Hid (spOpened D = D.blk) := if_pos hname
    have HNA := Lib.hid hname
    clear hname
    generalize D.blk 0 = x0 at *
    generalize spName D.n = nm at *
    go_upto_region 11 with fail
    have hxe := HNA.out
    go_region_with (go_at_call 51; refine HNm.out.mono ?_; rintro e w4 ⟨rfl, hB4⟩; have HB4 : Hid (Below w3.heap.size w3 w4) := ((Below.refl _ w3).drew).trans hB4; clear hB4)
    all_goals
      go_wp2
      go_ret2
      refine ⟨s, ext F0 w2 w3, rfl, ?_, HU3.out.trans (Upd.below HB4.out (fun x hx hle => ?_)), fun b hb => ?_⟩
      · rw [HOP.out]; exact (HS3.out.sin.made HB4.out).mono (by omega)
      · have := HU3.out.size; omega
      · have := HS2.out
        rcases hb with hb | hb
        · exact HFX2.out.1 b hb
        · exact .inr (by omega)
  · have HOP : Hid (spOpened D = spLaid D.n D.blk) := if_neg hname
    have hnb := bytes_neq hname
    have hnb2 : (((D.blk 0).extract 0 8).toList != (spName D.n).toList) = true := by simp [bne, hnb]
    have HLY : Hid (∀ w4, SIn w0 w4 s d (ext F0 w2 w3) D.n D.blk D.blk (N + 2) → Calls Tryz.prog 52 #[.pointer (some ⟨s, 0, none⟩)] w4 fun e w' => e = .returned (.int .i64 0) ∧ SStp w0 w4 w' s d (ext F0 w2 w3) D.n (spLaid D.n D.blk) (spLaid D.n D.blk) (N + 2 + 4000)) := fun w4 h4 => lay_sp h4 (by omega)
    clear hname
    generalize D.blk 0 = x0 at *
    generalize spName D.n = nm at *
    go_upto_region 11 with fail
    go_region_with (go_at_call 51; refine HNm.out.mono ?_; rintro e w4 ⟨rfl, hB4⟩; have HB4 : Hid (Below w3.heap.size w3 w4) := ((Below.refl _ w3).drew).trans hB4; clear hB4)
    all_goals
      have HS4 := Lib.hid (HS3.out.sin.made HB4.out)
      have HL4 := Lib.hid (HLY.out w4 HS4.out)
      clear HLY
      go_wp2_with fail
      refine HL4.out.mono ?_
      rintro e w5 ⟨rfl, hS5⟩
      have HS5 := Lib.hid hS5
      clear hS5 HL4
      go_wp2
      go_ret2
      have h34 := HB4.out.size
      have h23 := HS3.out.upd.size
      have h45 := HS5.out.upd.size
      have h02 := HS2.out
      refine ⟨s, ext (ext F0 w2 w3) w4 w5, rfl, ?_, (HU3.out.trans (Upd.below HB4.out (fun x hx hle => ?_))).then HS5.out.upd (fun x hx hf => ?_), fun b hb => ?_⟩
      · rw [HOP.out]; exact HS5.out.sin.mono (by omega)
      · have := HU3.out.size; omega
      · rcases hf with hf | hf
        · exact HFX2.out.2 x hx hf
        · omega
      · rcases hb with (hb | hb) | hb
        · exact HFX2.out.1 b hb
        · exact .inr (by omega)
        · exact .inr (by omega)
end Go.Proofs.YtdoankamaobkoaaGreatDoor
