/- SpaceLays: the walk. -/
import Derived.Test.YtdoankamaobkoaaGreatDoorOpenC
import Derived.Test.YtdoankamaobkoaaGreatDoorPlays
import Derived.Deep.Cut
set_option linter.unusedSimpArgs false
set_option linter.unusedVariables false
namespace Go.Proofs.YtdoankamaobkoaaGreatDoor
open Go.RowKit Go.Maps Go.Shelf

/-- a disk that lies in what was made since w, on, and told no cut; what stands on it is one of V0, V1 -/
structure DkIn (w wr : World) (d : Nat) (z : Int) (P : Dsk → Prop) (N : Int) : Prop where
  ex : ∃ bb lg D, DiskAt wr d bb lg D ∧ (∀ b, dfp d bb lg b → w.heap.size ≤ b) ∧ D.n = z ∧ (D.log.length : Int) ≤ N ∧ P D
  below : Below w.heap.size w wr
theorem vOpen_new (n : Int) : vOpen (spSize n) (newDsk (spSize n).toNat).blk = spV n := by
  have hs := spSize_bd n
  unfold vOpen spV
  rw [if_neg]
  rw [newDsk_blk (by omega) (by omega)]
  exact zeros_name _
theorem vOpen_laid (n : Int) : vOpen (spSize n) (spV n) = spV n := by
  unfold vOpen
  rw [if_pos (rep_new n).name]
theorem eff_new {n : Nat} (h1 : 64 ≤ n) (h2 : n ≤ 2048) : Eff (newDsk n) (newDsk n).blk :=
  ⟨by simp [newDsk]; omega, by simp [newDsk, zerosB_size], .inl ⟨by rw [newDsk_blk (by omega) (by omega), fill_nil], fun i _ => rfl⟩⟩
/-- Cut, in that word -/
theorem cut_in {w wr : World} {d : Nat} {z N : Int} {P : Dsk → Prop} (h : DkIn w wr d z P N) (n : Int) :
    Calls Tryz.prog 18 #[.pointer (some ⟨d, 0, none⟩), .int .i64 n] wr fun e w' => e = .returned (.tuple #[]) ∧ DkIn w w' d z (fun D => ∃ D0, P D0 ∧ D = D0.cut n) N := by
  obtain ⟨bb, lg, D, hD, hn, hz, hl, hP⟩ := h.ex
  refine (cut_any hD n).mono ?_
  rintro e w' ⟨rfl, hst⟩
  exact ⟨rfl, ⟨bb, lg, _, hst.at_, hn, hz, hl, D, hP, rfl⟩, h.below.trans (hst.upd.toBelow h.below.size (fun x hx hf => by have := hn x hf; omega))⟩
theorem restore_in {w wr : World} {d : Nat} {z N : Int} {P : Dsk → Prop} (h : DkIn w wr d z P N) :
    Calls Tryz.prog 20 #[.pointer (some ⟨d, 0, none⟩)] wr fun e w' => e = .returned (.tuple #[]) ∧ DkIn w w' d z (fun D => ∃ D0, P D0 ∧ D = D0.restore) N := by
  obtain ⟨bb, lg, D, hD, hn, hz, hl, hP⟩ := h.ex
  refine (restore_any hD).mono ?_
  rintro e w' ⟨rfl, hst⟩
  exact ⟨rfl, ⟨bb, lg, _, hst.at_, hn, hz, hl, D, hP, rfl⟩, h.below.trans (hst.upd.toBelow h.below.size (fun x hx hf => by have := hn x hf; omega))⟩
/-- Open where a cut is told -/
theorem open_in {w wr : World} {d : Nat} {z N room : Int} {P : (Int → ByteArray) → Prop} (hg : Glob w) (h1 : 1 ≤ room) (h2 : room ≤ 1024)
    (h : DkIn w wr d z (fun D => D.down = false ∧ (D.told = true → 0 ≤ D.left ∧ D.left < 9223372036854775808) ∧ ∃ V, P V ∧ Eff D V) N) (hP : ∀ V, P V → P (vOpen z V)) (hN : N < 800000000000) :
    Calls Tryz.prog 19 #[.pointer (some ⟨d, 0, none⟩), .int .i64 room] wr fun e w' => ∃ v c, e = .returned (.tuple #[v, .int .i64 c]) ∧ ((c = 17 ∧ v = .pointer none) ∨ (c = 0 ∧ ∃ s, v = .pointer (some ⟨s, 0, none⟩))) ∧
      DkIn w w' d z (fun D => ∃ V, P V ∧ Eff D V) (N + 9000) := by
  obtain ⟨bb, lg, D, hD, hn, hz, hl, hd, hleft, V, hV, he⟩ := h.ex
  refine (open_any h.below hg hD hn h1 h2 he hd hleft hl hN).mono ?_
  rintro e w' ⟨v, c, rfl, hU, bb', lg', D', hD', hf, ht, hz', hl', hw⟩
  have hs := h.below.size
  refine ⟨v, c, rfl, ?_, ⟨bb', lg', D', hD', fun b hb => ?_, hz'.trans hz, hl', ?_⟩, h.below.trans (hU.toBelow hs (fun x hx hf => by have := hn x hf; omega))⟩
  · rcases hw with ⟨a, b, _⟩ | ⟨a, s, b, _⟩
    · exact .inl ⟨a, b⟩
    · exact .inr ⟨a, s, b⟩
  · rcases hf b hb with h | h
    · exact hn b h
    · omega
  · rw [hz] at hw
    rcases hw with ⟨_, _, _, a | a⟩ | ⟨_, s, _, _, a, _⟩
    · exact ⟨V, hV, a⟩
    · exact ⟨_, hP V hV, a⟩
    · exact ⟨_, hP V hV, a⟩

def LaysP (n : Int) (V : Int → ByteArray) : Prop := V = (newDsk (spSize n).toNat).blk ∨ V = spV n
theorem laysP_open (n : Int) : ∀ V, LaysP n V → LaysP n (vOpen (spSize n) V) := by
  intro V h
  rcases h with rfl | rfl
  · exact .inr (vOpen_new n)
  · exact .inr (vOpen_laid n)
def OnP (P : (Int → ByteArray) → Prop) (D : Dsk) : Prop := D.told = false ∧ D.down = false ∧ ∃ V, P V ∧ Eff D V
theorem eff_cut {D : Dsk} {V : Int → ByteArray} (h : Eff D V) (n : Int) : Eff (D.cut n) V := ⟨h.bd, h.sizes, h.eff⟩
theorem eff_restore {D : Dsk} {V : Int → ByteArray} (h : Eff D V) : Eff D.restore V := ⟨h.bd, h.sizes, h.eff⟩
theorem DkIn.imp {w wr : World} {d : Nat} {z N : Int} {P Q : Dsk → Prop} (h : DkIn w wr d z P N) (hi : ∀ D, P D → Q D) : DkIn w wr d z Q N := by
  obtain ⟨bb, lg, D, hD, hn, hz, hl, hP⟩ := h.ex
  exact ⟨⟨bb, lg, D, hD, hn, hz, hl, hi D hP⟩, h.below⟩
theorem DkIn.made {w wr w' : World} {d : Nat} {z N : Int} {P : Dsk → Prop} (h : DkIn w wr d z P N) (hB : Below wr.heap.size wr w') : DkIn w w' d z P N := by
  obtain ⟨bb, lg, D, hD, hn, hz, hl, hP⟩ := h.ex
  exact ⟨⟨bb, lg, D, hD.below hB, hn, hz, hl, hP⟩, h.below.trans (hB.mono h.below.size)⟩
/-- Open where no cut is told -/
theorem open_up_in {w wr : World} {d : Nat} {z N room : Int} {P : (Int → ByteArray) → Prop} (hg : Glob w) (h1 : 1 ≤ room) (h2 : room ≤ 1024) (h : DkIn w wr d z (OnP P) N) (hN : N < 800000000000) :
    Calls Tryz.prog 19 #[.pointer (some ⟨d, 0, none⟩), .int .i64 room] wr fun e w' => ∃ s F V, e = .returned (.tuple #[.pointer (some ⟨s, 0, none⟩), .int .i64 0]) ∧ P V ∧ SIn w w' s d F z (vOpen z V) (vOpen z V) (N + 9000) ∧ (∀ b, F b → b < w'.heap.size) := by
  obtain ⟨bb, lg, D, hD, hn, hz, hl, ht, hd, V, hV, he⟩ := h.ex
  refine (open_any h.below hg hD hn h1 h2 he hd (fun h => by rw [ht] at h; cases h) hl hN).mono ?_
  rintro e w' ⟨v, c, rfl, hU, bb', lg', D', hD', hf, ht', hz', hl', hw⟩
  rw [hz] at hw
  rcases hw with ⟨_, _, a, _⟩ | ⟨rfl, s, rfl, _, _, hS⟩
  · rw [ht] at a; cases a
  · obtain ⟨F, hS, _⟩ := hS ht
    exact ⟨s, _, V, rfl, hV, hS.lt, fun b hb => hb.2⟩
set_option maxHeartbeats 4000000 in
set_option maxRecDepth 100000 in
theorem lays_walk (n : Int) (a2 : Option Addr) (len2 cap2 : Nat) (z2 : List Int) (w : World) (hn : (Lit.int .i64 n).wf = true) (hg : Glob w) (hrow : RowU8 w a2 len2 z2) (hlen : len2 ≤ 140737488355328) :
    Calls Tryz.prog 4 #[.int .i64 n, .slice a2 len2 cap2] w fun e w' => e = .returned (.bool true) ∧ Below w.heap.size w w' := by
  have HROW := Lib.hid hrow
  have HW := Lib.hid (swakes_any w hg)
  have hs := spSize_bd n
  have HSZ := Lib.hid (fun W => size_any n W hn)
  have HLP := Lib.hid (laysP_open n)
  have HL0 : Hid (LaysP n (newDsk (spSize n).toNat).blk) := .inl rfl
  have HL1 : Hid (∀ V, LaysP n V → vOpen (spSize n) V = spV n) := fun V h => by
    rcases h with rfl | rfl
    · exact vOpen_new n
    · exact vOpen_laid n
  have HRP := Lib.hid (rep_new n)
  generalize LaysP n = LP at *
  generalize spV n = V1 at *
  obtain ⟨z, hz⟩ : ∃ z : Nat, spSize n = z := ⟨(spSize n).toNat, by omega⟩
  rw [hz] at hs HSZ HLP HL0 HL1 HRP
  rw [show ((z : Int)).toNat = z by omega] at HL0
  have HN : Hid (∀ W, Calls Tryz.prog 22 #[.int .i64 (z : Int)] W fun e w' => ∃ r vp vt, e = .returned (.pointer (some ⟨r, 0, none⟩)) ∧ RefAt W.heap.size w' r vp vt z (newRf (spMany z)) ∧ Below W.heap.size W w') := fun W => rnew_any z W (by omega) (by omega)
  have HG := Lib.hid hg
  have HOP : Hid (∀ wr N d, DkIn w wr d z (fun D => D.down = false ∧ (D.told = true → 0 ≤ D.left ∧ D.left < 9223372036854775808) ∧ ∃ V, LP V ∧ Eff D V) N → N < 800000000000 → _) := fun wr N d h hN => open_in (room := 3) hg (by omega) (by omega) h HLP.out hN
  have HOU : Hid (∀ wr N d, DkIn w wr d z (OnP LP) N → N < 800000000000 → _) := fun wr N d h hN => open_up_in (room := 3) hg (by omega) (by omega) h hN
  clear hz hrow hg
  have hz1 : 64 ≤ z := by omega
  have hz2 : z ≤ 103 := by omega
  go_enter Tryz.func4, Tryz.ntmps4
  go_wp2_with fail
  refine HW.out.mono ?_
  rintro e w1 ⟨rfl, hB⟩
  have HB1 := Lib.hid hB
  clear hB HW
  go_wp2_with (go_at_call 11; refine (HSZ.out _).mono ?_; rintro e w' ⟨rfl, rfl⟩)
  refine (diskNew_any z w1 (by omega) (by omega)).mono ?_
  rintro e w2 ⟨d, bb, rfl, hD, hd, hbb, hB⟩
  have HD2 : Hid (DkIn w w2 d z (OnP LP) 0) := by
    have h1 := HB1.out.size
    refine ⟨⟨bb, _, newDsk z, hD, fun b hb => ?_, newDsk_n z, by simp [newDsk], rfl, rfl, _, HL0.out, eff_new hz1 (by omega)⟩, HB1.out.trans (hB.mono h1)⟩
    rcases hb with hb | hb | hb
    · omega
    · omega
    · simp [Value.ownBlock] at hb
  clear hD hd hbb hB HB1
  go_wp2
  go_loopw [7] (fun i wr => ∃ k : Nat, i = .int .i64 k ∧ k ≤ len2 ∧ k ≤ 20 ∧ Hid (DkIn w wr d z (OnP LP) (9000 * k))) (fun i _ => 20 - (intOf i).toNat)
  case atStart => exact ⟨0, rfl, by omega, by omega, HD2⟩
  case round =>
    obtain ⟨k, rfl, hk, hk20, HDk⟩ := hrel
    clear HD2
    by_cases hlt : k < len2
    · by_cases hl20 : k < 20
      · obtain ⟨b, off, rfl, hbl, hc, hz0, hz3⟩ := HROW.out k hlt
        have hc' : wr.cell? ⟨b, off + k, none⟩ = some (.int .u8 (z2.getD k 0)) := (HDk.out.below.cell (p := ⟨b, off + k, none⟩) hbl).trans hc
        generalize z2.getD k 0 = x at *
        clear hc
        have HC := Lib.hid (cut_in HDk.out (x % 9))
        go_wp2_with fail
        refine HC.out.mono ?_
        rintro e w3 ⟨rfl, hD3⟩
        have HD3 := Lib.hid (hD3.imp (Q := fun D => D.down = false ∧ (D.told = true → 0 ≤ D.left ∧ D.left < 9223372036854775808) ∧ ∃ V, LP V ∧ Eff D V) (by
          rintro D ⟨D0, ⟨h1, h2, V, hV, he⟩, rfl⟩
          exact ⟨h2, fun _ => by show 0 ≤ x % 9 ∧ x % 9 < _; omega, V, hV, eff_cut he _⟩))
        have HO3 := Lib.hid (HOP.out w3 _ d HD3.out (by omega))
        clear hD3 HC HDk hc'
        go_wp2_with fail
        refine HO3.out.mono ?_
        rintro e w4 ⟨v, c, rfl, hvc, hD4⟩
        have HR4 := Lib.hid (restore_in hD4)
        clear hD4 HO3 HD3
        have HGO : Hid (∀ w5, DkIn w w5 d z (fun D => ∃ D0, (∃ V, LP V ∧ Eff D0 V) ∧ D = D0.restore) (9000 * (k : Int) + 9000) → DkIn w w5 d z (OnP LP) (9000 * ((k + 1 : Nat) : Int))) := fun w5 h => by
          rw [show (9000 : Int) * ((k + 1 : Nat) : Int) = 9000 * k + 9000 by push_cast; omega]
          refine h.imp ?_
          rintro D ⟨D0, ⟨V, hV, he⟩, rfl⟩
          exact ⟨rfl, rfl, V, hV, eff_restore he⟩
        rcases hvc with ⟨rfl, rfl⟩ | ⟨rfl, s, rfl⟩
        · go_wp2_with fail
          refine HR4.out.mono ?_
          rintro e w5 ⟨rfl, hD5⟩
          have HD5 := Lib.hid (HGO.out w5 hD5)
          clear hD5 HR4
          go_wp2
          go_roundw
          case rel => exact ⟨k + 1, by go_num, by omega, by omega, HD5⟩
          case measure => simp [intOf]; omega
        · go_wp2_with fail
          refine HR4.out.mono ?_
          rintro e w5 ⟨rfl, hD5⟩
          have HD5 := Lib.hid (HGO.out w5 hD5)
          clear hD5 HR4
          go_wp2
          go_roundw
          case rel => exact ⟨k + 1, by go_num, by omega, by omega, HD5⟩
          case measure => simp [intOf]; omega
      · have HO := Lib.hid (HOU.out wr _ d HDk.out (by omega))
        clear HDk
        go_wp2_with fail
        refine HO.out.mono ?_
        rintro e w3 ⟨s, F, V, rfl, hV, hS, hF⟩
        rw [HL1.out V hV] at hS
        have HS := Lib.hid hS
        have HFl := Lib.hid hF
        clear hV hS hF HO
        go_wp2_with (go_at_call 11; refine (HSZ.out _).mono ?_; rintro e w' ⟨rfl, rfl⟩)
        refine (HN.out w3).mono ?_
        rintro e w4 ⟨r, vp, vt, rfl, hR, hB⟩
        have HSM := Lib.hid (same_any (HS.out.made hB) (refIn hR (fun b hb => (hR.fp_lt hb).2) ⟨by omega, by omega⟩ (by simp [newRf]) (by simp [newRf])) HRP.out ⟨Nat.le_refl _, fun b h1 h2 hb => by have := HFl.out b hb; omega⟩ (fun b hb => by have := HFl.out b hb; have := hB.size; omega) (by omega))
        clear hR hB
        go_wp2_with fail
        refine HSM.out.mono ?_
        rintro e w5 ⟨rfl, hS5⟩
        have HB5 := Lib.hid hS5.sin.below
        clear hS5 HSM
        go_wp2
        go_ret
        exact ⟨rfl, HB5.out⟩
    · have HO := Lib.hid (HOU.out wr _ d HDk.out (by omega))
      clear HDk
      go_wp2_with fail
      refine HO.out.mono ?_
      rintro e w3 ⟨s, F, V, rfl, hV, hS, hF⟩
      rw [HL1.out V hV] at hS
      have HS := Lib.hid hS
      have HFl := Lib.hid hF
      clear hV hS hF HO
      go_wp2_with (go_at_call 11; refine (HSZ.out _).mono ?_; rintro e w' ⟨rfl, rfl⟩)
      refine (HN.out w3).mono ?_
      rintro e w4 ⟨r, vp, vt, rfl, hR, hB⟩
      have HSM := Lib.hid (same_any (HS.out.made hB) (refIn hR (fun b hb => (hR.fp_lt hb).2) ⟨by omega, by omega⟩ (by simp [newRf]) (by simp [newRf])) HRP.out ⟨Nat.le_refl _, fun b h1 h2 hb => by have := HFl.out b hb; omega⟩ (fun b hb => by have := HFl.out b hb; have := hB.size; omega) (by omega))
      clear hR hB
      go_wp2_with fail
      refine HSM.out.mono ?_
      rintro e w5 ⟨rfl, hS5⟩
      have HB5 := Lib.hid hS5.sin.below
      clear hS5 HSM
      go_wp2
      go_ret
      exact ⟨rfl, HB5.out⟩
end Go.Proofs.YtdoankamaobkoaaGreatDoor
