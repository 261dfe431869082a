/- PagerPins: the walk. -/
import Derived.Test.YtdoankamaobkoaaPinsLaw
set_option linter.unusedSimpArgs false
set_option linter.unusedVariables false
namespace Go.Proofs.Ytdoankamaobkoaa
open Go.RowKit Go.Maps Go.Shelf

theorem u8_bd {n : Int} (h : (Lit.int .u8 n).wf = true) : 0 ≤ n ∧ n ≤ 255 := by
  have h1 : IntKind.u8.min = 0 := rfl
  have h2 : IntKind.u8.max = 255 := rfl
  have h3 : (decide (IntKind.u8.min ≤ n) && decide (n ≤ IntKind.u8.max)) = true := h
  rw [h1, h2] at h3
  simpa using h3

/-- a slice of bytes that came in: each element is a cell of what was there -/
def RowU8 (w : World) (a : Option Addr) (len : Nat) (z : List Int) : Prop :=
  ∀ i, i < len → ∃ b off, a = some ⟨b, off, none⟩ ∧ b < w.heap.size ∧ w.cell? ⟨b, off + i, none⟩ = some (.int .u8 (z.getD i 0)) ∧ 0 ≤ z.getD i 0 ∧ z.getD i 0 ≤ 255

set_option maxRecDepth 100000 in
set_option maxHeartbeats 4000000 in
theorem pins_walk (a0 a1 : Int) (a2 : Option Addr) (len2 cap2 : Nat) (z2 : List Int) (w : World) (w0 : (Lit.int .u8 a0).wf = true) (w1 : (Lit.int .u8 a1).wf = true) (hrow : RowU8 w a2 len2 z2) (hlen : len2 ≤ 9223372036854775807) :
    Calls Try.prog 3 #[.int .u8 a0, .int .u8 a1, .slice a2 len2 cap2] w fun e w' => e = .returned (.bool true) ∧ Below w.heap.size w w' := by
  obtain ⟨b0, b1⟩ := u8_bd w0
  obtain ⟨b2, b3⟩ := u8_bd w1
  clear w0 w1
  have HROW := Lib.hid hrow
  clear hrow
  have hx := blockB_size ⟨#[120]⟩
  have hb : ∀ W, Calls Try.prog 11 #[.string ⟨#[120]⟩] W fun e w' => e = .returned (.string (blockB ⟨#[120]⟩)) ∧ Below W.heap.size W w' := fun W => block_any _ W (by simp [ByteArray.size])
  have HX := Lib.hid hx
  clear hx
  generalize blockB ⟨#[120]⟩ = x at *
  have ho1 : 37 ≤ 37 + a1 % 32 := by omega
  have ho2 : 37 + a1 % 32 < 69 := by omega
  have hr1 : 1 ≤ 1 + a0 % 6 := by omega
  have hr2 : 1 + a0 % 6 ≤ 1024 := by omega
  obtain ⟨hp1, hp2⟩ := pinned_start hr1 hr2 ho1 ho2
  have HP1 := Lib.hid hp1
  have HP2 := Lib.hid hp2
  clear hp1 hp2
  by_cases hl : 1000 < (len2 : Int)
  ·
    go_enter Try.func3, Try.ntmps3
    go_wp2_with fail
    refine (wakes_any w).mono ?_
    rintro e w1 ⟨rfl, hB1⟩
    have HB1 := Lib.hid hB1
    clear hB1
    go_wp2_with fail
    refine (diskNew_any 70 w1 (by omega) (by omega)).mono ?_
    rintro e w2 ⟨d, bb, rfl, hD, hd, hbb, hB⟩
    have HD := Lib.hid hD; have HB := Lib.hid (HB1.out.trans (hB.mono HB1.out.size))
    have hd' : w.heap.size ≤ d := by have := HB1.out.size; omega
    have hbb' : w.heap.size ≤ bb := by have := HB1.out.size; omega
    clear hD hB hd hbb
    go_wp2_with fail
    refine (new_in 70 _ w w2 HB.out (by omega) (by omega) hr1 hr2 d bb HD.out hd' hbb').mono ?_
    rintro e w3 ⟨p, F, rfl, hP⟩
    have HP := Lib.hid hP
    clear hP HD HB HB1
    go_wp2_with fail
    have hS := pin_in HP.out (37 + a1 % 32) (wf_small (by omega)) (by simp [newPgr]) (by simp [newPgr]) (by simp [newPgr, get])
    rw [HP1.out] at hS
    refine hS.mono ?_
    rintro e w4 ⟨rfl, hP, _⟩
    have HP4 := Lib.hid hP
    clear hP hS HP
    go_wp2
    go_ret
    exact ⟨rfl, HP4.out.below⟩
  · have hl' : len2 ≤ 1000 := by omega
    clear hl
    go_enter Try.func3, Try.ntmps3
    go_wp2_with fail
    refine (wakes_any w).mono ?_
    rintro e w1 ⟨rfl, hB1⟩
    have HB1 := Lib.hid hB1
    clear hB1
    go_wp2_with fail
    refine (diskNew_any 70 w1 (by omega) (by omega)).mono ?_
    rintro e w2 ⟨d, bb, rfl, hD, hd, hbb, hB⟩
    have HD := Lib.hid hD; have HB := Lib.hid (HB1.out.trans (hB.mono HB1.out.size))
    have hd' : w.heap.size ≤ d := by have := HB1.out.size; omega
    have hbb' : w.heap.size ≤ bb := by have := HB1.out.size; omega
    clear hD hB hd hbb
    go_wp2_with fail
    refine (new_in 70 _ w w2 HB.out (by omega) (by omega) hr1 hr2 d bb HD.out hd' hbb').mono ?_
    rintro e w3 ⟨p, F, rfl, hP⟩
    have HP := Lib.hid hP
    clear hP HD HB HB1
    go_wp2_with fail
    have hS := pin_in HP.out (37 + a1 % 32) (wf_small (by omega)) (by simp [newPgr]) (by simp [newPgr]) (by simp [newPgr, get])
    rw [HP1.out] at hS
    refine hS.mono ?_
    rintro e w4 ⟨rfl, hP, _⟩
    have HP4 := Lib.hid hP
    clear hP hS HP
    generalize ((newPgr (newDsk 70) (1 + a0 % 6)).pin (37 + a1 % 32)).2 = S0 at *
    generalize ext F w3 w4 = F0 at *
    go_wp2
    go_loopw [59] (fun i wr => ∃ (k : Nat) (Fk : Nat → Prop) (Sk : Pgr), i = .int .i64 k ∧ k ≤ len2 ∧ Hid (PIn w wr p d Fk Sk) ∧ Hid (Pinned Sk (37 + a1 % 32) (2 + k))) (fun i _ => len2 - (intOf i).toNat)
    case atStart => exact ⟨0, F0, S0, rfl, by omega, HP4, HP2⟩
    case round =>
      obtain ⟨k, Fk, Sk, rfl, hk, HPk, HIk⟩ := hrel
      by_cases hlt : k < len2
      · obtain ⟨b, off, rfl, hbl, hcell, hv1, hv2⟩ := HROW.out k hlt
        have hcell' : wr.cell? ⟨b, off + k, none⟩ = some (.int .u8 (z2.getD k 0)) := (HPk.out.below.cell (p := ⟨b, off + k, none⟩) hbl).trans hcell
        clear hcell
        generalize z2.getD k 0 = v at *
        have hS := load_in HPk.out (37 + v % 32) (wf_small (by omega)) (by have := HIk.out.clock; omega) (by have := HIk.out.reads; omega)
        have HI2 := Lib.hid (HIk.out.load (i := 37 + v % 32) (by omega) (by omega))
        go_wp2_with fail
        refine hS.mono ?_
        rintro e w5 ⟨rfl, hP, _⟩
        have HP5 := Lib.hid hP
        clear hP hS HPk HIk
        go_wp2
        go_roundw
        case rel => exact ⟨k + 1, _, _, by go_num, by omega, HP5, by have := HI2.out; rw [show (2 : Int) + ((k + 1 : Nat) : Int) = 2 + k + 1 by omega]; exact this⟩
        case measure => simp [intOf]; omega
      · obtain rfl : len2 = k := by omega
        obtain ⟨y, S1, S2, S3, e1, e2, e3, e4, e5, e6, e7, c1, c2, c3, c4, p1, p2, p3⟩ := pinned_end HIk.out ho1 ho2 HX.out
        have E1 := Lib.hid e1; have E2 := Lib.hid e2; have E3 := Lib.hid e3; have E4 := Lib.hid e4; have E5 := Lib.hid e5; have E6 := Lib.hid e6; have E7 := Lib.hid e7
        have P1 := Lib.hid p1; have P2 := Lib.hid p2; have P3 := Lib.hid p3
        have hcl := HIk.out.clock
        have hrl := HIk.out.reads
        clear e1 e2 e3 e4 e5 e6 e7 p1 p2 p3
        have hwf := Lib.hid (wf_small (i := 37 + a1 % 32) (by omega))
        have HC : Hid (Sk.clock < 4611686018427387904 ∧ Sk.reads < 4611686018427387904 ∧ S1.clock < 4611686018427387900 ∧ S1.reads < 4611686018427387904 ∧ S3.clock < 4611686018427387900 ∧ S3.reads < 4611686018427387904) := by
          refine ⟨?_, ?_, ?_, ?_, ?_, ?_⟩ <;> omega
        clear hcl hrl c1 c2 c3 c4
        go_wp2_with fail
        refine (reads_in HPk.out).mono ?_
        rintro e w5 ⟨rfl, rfl⟩
        go_wp2_with fail
        have hS := load_in HPk.out (37 + a1 % 32) hwf.out HC.out.1 HC.out.2.1
        rw [E1.out] at hS
        refine hS.mono ?_
        rintro e w6 ⟨rfl, hP, _⟩
        have HP6 := Lib.hid hP
        clear hP hS HPk
        go_wp2_with fail
        have hS := reads_in HP6.out
        rw [E2.out] at hS
        refine hS.mono ?_
        rintro e w7 ⟨rfl, rfl⟩
        clear hS
        go_wp2_with fail
        refine (hb _).mono ?_
        rintro e w8 ⟨rfl, hB⟩
        have HP8 := Lib.hid (HP6.out.made hB)
        clear hB HP6
        go_wp2_with fail
        have hS := store_in HP8.out (37 + a1 % 32) x hwf.out (by have := HX.out; omega)
        rw [E3.out] at hS
        refine hS.mono ?_
        rintro e w9 ⟨rfl, hP, _⟩
        have HP9 := Lib.hid hP
        clear hP hS HP8
        go_wp2_with fail
        have hS := unpin_in HP9.out (37 + a1 % 32) hwf.out (fun z hz => by have := P1.out z hz; omega)
        rw [E4.out] at hS
        refine hS.mono ?_
        rintro e w10 ⟨rfl, hP, _⟩
        have HP10 := Lib.hid hP
        clear hP hS HP9
        go_wp2_with fail
        have hS := unpin_in HP10.out (37 + a1 % 32) hwf.out (fun z hz => by have := P2.out z hz; omega)
        rw [E5.out] at hS
        refine hS.mono ?_
        rintro e w11 ⟨rfl, hP, _⟩
        have HP11 := Lib.hid hP
        clear hP hS HP10
        go_wp2_with fail
        refine (hb _).mono ?_
        rintro e w12 ⟨rfl, hB⟩
        have HP12 := Lib.hid (HP11.out.made hB)
        clear hB HP11
        go_wp2_with fail
        have hS := store_in HP12.out (37 + a1 % 32) x hwf.out (by have := HX.out; omega)
        rw [E6.out] at hS
        refine hS.mono ?_
        rintro e w13 ⟨rfl, hP, _⟩
        have HP13 := Lib.hid hP
        clear hP hS HP12
        go_wp2_with fail
        have hS := pin_in HP13.out (37 + a1 % 32) hwf.out HC.out.2.2.2.2.1 HC.out.2.2.2.2.2 (fun z hz => by have := P3.out z hz; omega)
        rw [E7.out] at hS
        refine hS.mono ?_
        rintro e w14 ⟨rfl, hP, _⟩
        have HP14 := Lib.hid hP
        clear hP hS HP13
        go_wp2
        go_ret
        exact ⟨rfl, HP14.out.below⟩
end Go.Proofs.Ytdoankamaobkoaa
