/- PagerPlays: the walk. -/
import Derived.Test.YtdoankamaobkoaaGreatQPlay
import Derived.Deep.RegionHeld3
set_option linter.unusedSimpArgs false
set_option linter.unusedVariables false
namespace Go.Proofs.YtdoankamaobkoaaGreat
open Go.RowKit Go.Maps Go.Shelf

/-- a slice of acts that came in, with short texts -/
def QActs (w : World) (a : Option Addr) (n : Nat) : Prop :=
  ∀ i, i < n → ∃ (b off : Nat) (k t : Int) (s : ByteArray), a = some ⟨b, off, none⟩ ∧ b < w.heap.size ∧ w.cell? ⟨b, off + i * 3, none⟩ = some (.int .i64 k) ∧ (Lit.int .i64 k).wf = true ∧
    w.cell? ⟨b, off + i * 3 + 1, none⟩ = some (.int .i64 t) ∧ (Lit.int .i64 t).wf = true ∧ w.cell? ⟨b, off + i * 3 + 2, none⟩ = some (.string s) ∧ s.size ≤ 140737488355328
theorem TzEx.below {w0 w : World} {p d r x : Nat} {K : Int} (h : TzEx w0 w p d r x 0 K) : Below w0.heap.size w0 w := by obtain ⟨F, G, S, L, hz, _⟩ := h; exact hz.pin.below
theorem Tz.made {w0 w w' : World} {p d r x : Nat} {F G : Nat → Prop} {S : Pgr} {L : List (Int × Pg)} (h : Tz w0 w p d r x F G S L) (hB : Below w.heap.size w w') : Tz w0 w' p d r x F G S L := by
  have hs := hB.size
  exact ⟨h.pin.made hB, h.rat.made hB, h.ord, h.newG, fun b hb => by have := h.fl b hb; omega, fun b hb => by have := h.gl b hb; omega, h.ap⟩
theorem TzEx.made {w0 w w' : World} {p d r x : Nat} {K : Int} (h : TzEx w0 w p d r x 0 K) (hB : Below w.heap.size w w') : TzEx w0 w' p d r x 0 K := by
  obtain ⟨F, G, S, L, hz, hb⟩ := h
  exact ⟨F, G, S, L, hz.made hB, hb⟩
theorem log_in {w0 w : World} {p d : Nat} {F : Nat → Prop} {S : Pgr} (h : PIn w0 w p d F S) (hn : S.disk.log.length ≤ 1000000000000) :
    Calls Tryz.prog 29 #[.pointer (some ⟨d, 0, none⟩)] w fun e w' => ∃ a c, e = .returned (.slice a S.disk.log.length c) ∧ PRow w' a S.disk.log ∧ Below w.heap.size w w' := by
  obtain ⟨⟨L, rfl, rfl, hA, _, hok⟩, _, _⟩ := h
  exact log_any hA.disk hn
theorem sameInts_len (a1 a2 : Option Addr) (c1 c2 n1 n2 : Nat) (l : List Int) (w : World) (hn1 : l.length = n1) (hn2 : l.length = n2) (hl : n1 ≤ 100000) (h1 : IRow w a1 l) (h2 : IRow w a2 l) :
    Calls Tryz.prog 25 #[.slice a1 n1 c1, .slice a2 n2 c2] w fun e w' => e = .returned (.bool true) ∧ Below w.heap.size w w' := by
  subst hn1
  subst hn2
  exact sameInts_any a1 a2 c1 c2 l w hl h1 h2
theorem iRow_len {w : World} {base : Nat} {a : Option Addr} {cap n : Nat} {l : List Int} (hn : l.length = n) (h : w.ownsRow base 3 1 (.slice a n cap) n (l.map encZ)) : IRow w a l := by subst hn; exact iRow_of h
theorem Tz.reads {w0 w : World} {p d r x : Nat} {F G : Nat → Prop} {S : Pgr} {L : List (Int × Pg)} (h : Tz w0 w p d r x F G S L) : w.cell? ⟨r, 4, none⟩ = some (.int .i64 S.reads) := by
  have hr := h.rat
  obtain ⟨lv, cv, bv, lgv, hM, hG⟩ := hr
  exact hM.sees.c4
set_option maxHeartbeats 8000000 in
set_option maxRecDepth 100000 in
theorem qplays_walk (room : Int) (a1 : Option Addr) (n1 c1 : Nat) (w : World) (hr : (Lit.int .i64 room).wf = true) (h1 : QActs w a1 n1) (hn1 : n1 ≤ 1048576) :
    Calls Tryz.prog 6 #[.int .i64 room, .slice a1 n1 c1] w fun e w' => e = .returned (.bool true) ∧ Below w.heap.size w w' := by
  have H1 := Lib.hid h1
  clear h1
  go_enter Tryz.func6, Tryz.ntmps6
  go_wp2_with fail
  refine (wakes_any w).mono ?_
  rintro e w1 ⟨rfl, hB1⟩
  have HB1 := Lib.hid hB1
  clear hB1
  go_wp2_with fail
  refine (diskNew_any 70 w1 (by omega) (by omega)).mono ?_
  rintro e w2 ⟨d, bb, rfl, hD, hd, hbb, hB⟩
  have HD := Lib.hid hD; have HB := Lib.hid (HB1.out.trans (hB.mono HB1.out.size))
  have hd' : w.heap.size ≤ d := by have := HB1.out.size; omega
  have hbb' : w.heap.size ≤ bb := by have := HB1.out.size; omega
  clear hD hB hd hbb
  go_wp2_with fail
  refine (qnew_any 70 w2 (by omega) (by omega)).mono ?_
  rintro e w3 ⟨x, bv, rfl, hQ, hx, hbv, hB3⟩
  have HQ := Lib.hid hQ
  have HBV := Lib.hid hbv
  have HB3 := Lib.hid hB3
  clear hQ hbv hB3
  by_cases hbad : room < 1 ∨ 1024 < room
  · go_wp2_with fail
    refine (pnew_bad _ room _ hbad).mono ?_
    rintro e w4 ⟨rfl, rfl⟩
    have HBE := Lib.hid (HB.out.trans (HB3.out.mono HB.out.size))
    clear HD HB HQ HBV HB3 HB1 hx
    rcases hbad with hbad | hbad
    · go_wp2
      go_ret
      exact ⟨rfl, HBE.out⟩
    · have h1r : 1 ≤ room := by omega
      go_wp2
      go_ret
      exact ⟨rfl, HBE.out⟩
  · have hr1 : 1 ≤ room := by omega
    have hr2 : room ≤ 1024 := by omega
    have hD3 : DiskAt w3 d bb (.slice none 0 0) (newDsk 70) := HD.out.keep fun b _ _ _ hb _ _ => HB3.out.block b (lt_of hb)
    have HP := Lib.hid (pagerNew_ok hD3 room hr1 hr2 (by simp [newDsk]) (by simp [newDsk, zerosB_size]))
    clear hD3 hbad
    go_wp2_with fail
    refine HP.out.mono ?_
    rintro e w4 ⟨p, rfl, hp, hP, hB4⟩
    have HS : Hid (TzEx w (w4.alloc (.cells #[.pointer (some ⟨x, 0, none⟩), .int .i64 room, .slice none 0 0, .slice none 0 0, .int .i64 0] 55 (0, 0))) p d w4.heap.size x 0 0) := by
      have s2 := HB.out.size
      have s3 := HB3.out.size
      refine tz_start HB.out hd' hbb' (lt_of HD.out.d) (lt_of HD.out.bb) HQ.out hx HBV.out HB3.out hB4 ⟨hP, fun b hb => ?_, (HB.out.trans (HB3.out.mono s2)).trans (hB4.mono (by omega))⟩
      rcases hb with (hb | hb | hb) | hb
      · omega
      · omega
      · simp [Value.ownBlock] at hb
      · omega
    clear hP hB4 hp HP HD HB HQ HBV HB3 HB1 hx
    go_wp2
    generalize (w4.alloc (.cells #[.pointer (some ⟨x, 0, none⟩), .int .i64 room, .slice none 0 0, .slice none 0 0, .int .i64 0] 55 (0, 0))) = w5 at *
    generalize w4.heap.size = r at *
    go_loopw [51] (fun v wr => ∃ k : Nat, v = .int .i64 k ∧ k ≤ n1 ∧ Hid (TzEx w wr p d r x 0 (30000 * k))) (fun v _ => n1 - (intOf v).toNat)
    case atStart => exact ⟨0, rfl, by omega, HS⟩
    case round =>
      obtain ⟨k, rfl, hk, HT⟩ := hrel
      clear HS
      by_cases hlt : k < n1
      · obtain ⟨b, off, kk, t, tx, rfl, hbl, hc0, hw0, hc1, hw1, hc2, hs⟩ := H1.out k hlt
        have hbel := HT.out.below
        have g0 : ∀ W, Below w.heap.size w W → W.cell? ⟨b, off + k * 3, none⟩ = some (.int .i64 kk) ∧ W.cell? ⟨b, off + k * 3 + 1, none⟩ = some (.int .i64 t) ∧ W.cell? ⟨b, off + k * 3 + 2, none⟩ = some (.string tx) := fun W hB =>
          ⟨(hB.cell (p := ⟨b, off + k * 3, none⟩) hbl).trans hc0, (hB.cell (p := ⟨b, off + k * 3 + 1, none⟩) hbl).trans hc1, (hB.cell (p := ⟨b, off + k * 3 + 2, none⟩) hbl).trans hc2⟩
        obtain ⟨m0, m1, m2⟩ := g0 wr.drew hbel.drew
        have HX := Lib.hid (qdoes_any (HT.out.made ((Below.refl wr.heap.size wr).drew)) (by omega) (by omega) kk t tx hw0 hw1 hs)
        unfold qactV at HX
        have G0 := Lib.hid g0
        clear hbel hc0 hc1 hc2 g0 HT
        go_upto_region 16 with fail
        go_region_law
          (first
          | (go_simp; go_at_call 22; refine (reads_in HZ8.out.pin).mono ?_; rintro e w' ⟨rfl, rfl⟩)
          | (go_simp; go_at_call 25; refine (sameInts_len _ _ _ _ _ _ (L.map (·.1)) _ HKN.out (by simp) (by have := HLE.out; omega) HR6.out HR7.out).mono ?_; rintro e w8 ⟨rfl, hB8⟩
             have HZ8 := Lib.hid (HZ7.out.made hB8)
             have e4 := HZ8.out.reads
             obtain ⟨u0, u1, u2⟩ := G0.out _ HZ8.out.pin.below
             clear hB8)
          | (go_simp; go_at_call 27; refine (qheld_any HZ6.out.rat (by have := HLE.out; omega)).mono ?_; rintro e w7 ⟨ao7, co7, rfl, hrow7, hB7⟩
             have HZ7 := Lib.hid (HZ6.out.made hB7)
             have HR7 := Lib.hid (iRow_len (by simp) hrow7)
             replace HR6 := Lib.hid (HR6.out.made hB7)
             obtain ⟨t0, t1, t2⟩ := G0.out _ HZ7.out.pin.below
             clear hB7 hrow7)
          | (go_simp; go_at_call 21; refine (held_in HZ5.out.pin (by have := HBD.out.clock; omega)).mono ?_; rintro e w6 ⟨ao6, co6, ks, rfl, hp6, hpw6, hrow6, -, hB6⟩
             have HZ6 := Lib.hid (HZ5.out.made hB6)
             have HKS : Hid (ks = L.map (·.1)) := ord_keys HZ6.out.ord HZ6.out.pin.ok hp6 hpw6
             rw [HKS.out] at hrow6
             have HKN : Hid ((L.map (·.1)).length = S.held.length) := by show _ = _; rw [List.length_map]; exact HZ6.out.ord.len
             have HLE : Hid (L.length ≤ 1024 ∧ S.held.length ≤ 1024) := ⟨HZ6.out.ord.len_bd HZ6.out.pin.ok, by rw [← HZ6.out.ord.len]; exact HZ6.out.ord.len_bd HZ6.out.pin.ok⟩
             have HR6 := Lib.hid (iRow_len HKN.out hrow6)
             obtain ⟨s0, s1, s2⟩ := G0.out _ HZ6.out.pin.below
             clear hB6 hrow6 hp6 hpw6)
          | (go_simp; go_at_call 25; refine (sameInts_len _ _ _ _ _ _ (S.changed.map (·.1)) _ (by simp) (by simp) (by have := HCL.out; omega) HR3.out HR4.out).mono ?_; rintro e w5 ⟨rfl, hB5⟩
             have HZ5 := Lib.hid (HZ4.out.made hB5)
             obtain ⟨q0, q1, q2⟩ := G0.out _ HZ5.out.pin.below
             clear hB5)
          | (go_simp; go_at_call 26; refine (qdirty_any HZ3.out.rat HZ3.out.pin.ok.chg_len).mono ?_; rintro e w4 ⟨ao4, co4, rfl, hrow4, hB4⟩
             have HZ4 := Lib.hid (HZ3.out.made hB4)
             have HR4 := Lib.hid (iRow_len (by simp) hrow4)
             replace HR3 := Lib.hid (HR3.out.made hB4)
             obtain ⟨p0, p1, p2⟩ := G0.out _ HZ4.out.pin.below
             clear hB4 hrow4)
          | (go_simp; go_at_call 17; refine (dirty_in HZ.out.pin).mono ?_; rintro e w3 ⟨ao3, co3, rfl, hrow3, -, hB3⟩
             have HZ3 := Lib.hid (HZ.out.made hB3)
             have HCL := Lib.hid HZ.out.pin.ok.chg_len
             have HR3 := Lib.hid (iRow_len (by simp) hrow3)
             obtain ⟨o0, o1, o2⟩ := G0.out _ HZ3.out.pin.below
             clear hB3 hrow3)
          | (go_simp; go_at_call 24; refine HX.out.mono ?_; rintro e w2 ⟨rfl, hT2⟩
             obtain ⟨F, G, S, L, hz, hb⟩ := hT2
             have HZ := Lib.hid hz
             have HBD := Lib.hid hb
             obtain ⟨n0, n1', n2⟩ := G0.out w2 hz.pin.below
             clear hz hb HX))
        all_goals
          go_wp2
          go_roundw
          case rel => exact ⟨k + 1, by go_num, by omega, by
            refine ⟨F, G, S, L, HZ8.out, ?_⟩
            have := HBD.out
            rw [show (30000 : Int) * ((k + 1 : Nat) : Int) = 30000 * k + 30000 by omega]; exact this⟩
          case measure => simp [intOf]; omega
      · obtain rfl : k = n1 := by omega
        obtain ⟨F, G, S, L, hz, hb⟩ := HT.out
        have HBE := Lib.hid HT.out.below
        have hrt := hz.rat
        obtain ⟨lv, cv, bv', lgv, hM, hG⟩ := hrt
        have hok := hz.pin.ok
        have hbl := hb.log
        have HX0 : Hid (∀ W, Below wr.heap.size wr W → W.cell? ⟨x, 0, none⟩ = some bv' ∧ W.cell? ⟨x, 1, none⟩ = some lgv) := fun W hB => by
          have hx := hM.qd.made hB
          exact ⟨by rw [cell_of hx.q]; rfl, by rw [cell_of hx.q]; rfl⟩
        obtain ⟨ba, bc, rfl⟩ := ownsRow_slice hM.blk
        obtain ⟨la, lc, rfl⟩ := ownsRow_slice hM.log
        have HTB := Lib.hid (tRow_own hM.blk)
        have HPL := Lib.hid (pRow_own hM.log)
        have hd1 : Below wr.heap.size wr wr.drew := (Below.refl wr.heap.size wr).drew
        have HIM := Lib.hid (image_in (hz.pin.made hd1))
        have HLG : Hid (∀ W, Below wr.heap.size wr W → _) := fun W hB => log_in (hz.pin.made hB) (by omega)
        obtain ⟨m0, m1⟩ := HX0.out _ hd1
        have hbn : S.disk.blocks.length ≤ 100000 := by have := hok.blocks; omega
        have hln : S.disk.log.length ≤ 1000000000000 := by omega
        clear HT hz hb hM hG hok hbl H1 hlt hk
        generalize S.disk.blocks = bl at *
        generalize S.disk.log = ll at *
        have HD1 := Lib.hid hd1
        clear hd1
        go_upto_region 19 with fail
        go_region_held3 (fun w' => w'.cell? ⟨x, 0, none⟩ = some (.slice ba bl.length bc) ∧ w'.cell? ⟨x, 1, none⟩ = some (.slice la ll.length lc)) (go_keep)
          (first
          | (go_at_call 28; refine (samePages_any _ _ _ _ ll _ hln HR4.out (HPL.out.made HD4.out)).mono ?_; rintro e w5 ⟨rfl, hB5⟩
             have HD5 := Lib.hid (HD4.out.trans (hB5.mono HD4.out.size))
             obtain ⟨q0, q1⟩ := HX0.out _ HD5.out
             clear hB5)
          | (go_at_call 29; refine (HLG.out _ HD3.out).mono ?_; rintro e w4 ⟨a4, c4, rfl, hr4, hB4⟩
             have HR4 := Lib.hid hr4
             have HD4 := Lib.hid (HD3.out.trans (hB4.mono HD3.out.size))
             obtain ⟨p0, p1⟩ := HX0.out _ HD4.out
             clear hB4 hr4)
          | (go_at_call 18; refine (sameTexts_any _ _ _ _ bl _ hbn HR2.out (HTB.out.made HD2.out)).mono ?_; rintro e w3 ⟨rfl, hB3⟩
             have HD3 := Lib.hid (HD2.out.trans (hB3.mono HD2.out.size))
             obtain ⟨o0, o1⟩ := HX0.out _ HD3.out
             clear hB3)
          | (go_at_call 14; refine HIM.out.mono ?_; rintro e w2 ⟨G2, rfl, hg2, -, -, hB2⟩
             have HR2 := Lib.hid (tRow_block hg2)
             have HD2 := Lib.hid (HD1.out.trans (hB2.mono HD1.out.size))
             obtain ⟨n0, n1'⟩ := HX0.out _ HD2.out
             clear hB2 hg2))
        all_goals
          go_wp2
          go_ret
          exact ⟨rfl, HBE.out.trans (HD5.out.mono HBE.out.size)⟩
end Go.Proofs.YtdoankamaobkoaaGreat
