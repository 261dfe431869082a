/- SpacePlays: the walk. -/
import Derived.Test.YtdoankamaobkoaaGreatDoorPlays
set_option linter.unusedSimpArgs false
set_option linter.unusedVariables false
namespace Go.Proofs.YtdoankamaobkoaaGreatDoor
open Go.RowKit Go.Maps Go.Shelf

def RowActs (w : World) (a : Option Addr) (n : Nat) : Prop :=
  ∀ i, i < n → ∃ (b off : Nat) (k t : Int) (s : ByteArray), a = some ⟨b, off, none⟩ ∧ b < w.heap.size ∧ w.cell? ⟨b, off + i * 3, none⟩ = some (.int .i64 k) ∧ (Lit.int .i64 k).wf = true ∧
    w.cell? ⟨b, off + i * 3 + 1, none⟩ = some (.int .i64 t) ∧ (Lit.int .i64 t).wf = true ∧ w.cell? ⟨b, off + i * 3 + 2, none⟩ = some (.string s) ∧ s.size ≤ 140737488355328
set_option maxHeartbeats 4000000 in
set_option maxRecDepth 100000 in
theorem plays_walk (n room : Int) (a3 : Option Addr) (len3 cap3 : Nat) (w : World) (hn : (Lit.int .i64 n).wf = true) (hr : (Lit.int .i64 room).wf = true) (hg : Glob w) (hrow : RowActs w a3 len3) (hlen : len3 ≤ 140737488355328) :
    Calls Tryz.prog 5 #[.int .i64 n, .int .i64 room, .slice a3 len3 cap3] w fun e w' => e = .returned (.bool true) ∧ Below w.heap.size w w' := by
  have HROW := Lib.hid hrow
  have HW := Lib.hid (swakes_any w hg)
  have HBG := Lib.hid (fun w1 hB => begin_dw n room hn hr w w1 hB hg)
  have HDO : Hid (∀ X W s d z N, DwEx w X W s d z N → _) := fun X W s d z N h => does_any (w0 := w) (w := X) h
  clear hrow hg
  generalize spSize n = z at *
  go_enter Tryz.func5, Tryz.ntmps5
  go_wp2_with fail
  refine HW.out.mono ?_
  rintro e w1 ⟨rfl, hB⟩
  have HBW := Lib.hid (HBG.out w1 hB)
  clear hB HW HBG
  go_wp2_with fail
  refine HBW.out.mono ?_
  rintro e w2 ⟨W, s, d, rfl, hD⟩
  have HD := Lib.hid hD
  clear hD HBW
  by_cases hbig : 2000 < len3
  · go_wp2
    go_ret
    obtain ⟨F, V, D, r1, lo1, hi1, R1, r2, lo2, hi2, R2, hD, _⟩ := HD.out
    exact ⟨rfl, hD.sin.below⟩
  · go_wp2
    go_loopw [27] (fun v wr => ∃ k : Nat, v = .int .i64 k ∧ k ≤ len3 ∧ Hid (DwEx w wr W s d z (5000 + 9000 * k))) (fun v _ => len3 - (intOf v).toNat)
    case atStart => exact ⟨0, rfl, by omega, HD⟩
    case round =>
      obtain ⟨k, rfl, hk, HDk⟩ := hrel
      clear HD
      by_cases hlt : k < len3
      · obtain ⟨b, off, kk, t, tx, rfl, hbl, hc0, hw0, hc1, hw1, hc2, hs⟩ := HROW.out k hlt
        have hbel : Below w.heap.size w wr := by obtain ⟨F, V, D, r1, lo1, hi1, R1, r2, lo2, hi2, R2, hD, _⟩ := HDk.out; exact hD.sin.below
        have g0 : wr.cell? ⟨b, off + k * 3, none⟩ = some (.int .i64 kk) := (hbel.cell (p := ⟨b, off + k * 3, none⟩) hbl).trans hc0
        have g1 : wr.cell? ⟨b, off + k * 3 + 1, none⟩ = some (.int .i64 t) := (hbel.cell (p := ⟨b, off + k * 3 + 1, none⟩) hbl).trans hc1
        have g2 : wr.cell? ⟨b, off + k * 3 + 2, none⟩ = some (.string tx) := (hbel.cell (p := ⟨b, off + k * 3 + 2, none⟩) hbl).trans hc2
        have HX := Lib.hid (HDO.out wr W s d z _ HDk.out kk t tx hw0 hs (by omega))
        clear hbel hc0 hc1 hc2 hs
        go_wp2_with fail
        refine HX.out.mono ?_
        rintro e w4 ⟨rfl, hD4⟩
        have HD4 := Lib.hid hD4
        clear hD4 HX HDk g0 g1 g2
        go_wp2
        go_roundw
        case rel => exact ⟨k + 1, by go_num, by omega, by
          have := HD4.out
          rw [show (5000 : Int) + 9000 * ((k + 1 : Nat) : Int) = 5000 + 9000 * k + 9000 by push_cast; omega]; exact this⟩
        case measure => simp [intOf]; omega
      · obtain rfl : k = len3 := by omega
        obtain ⟨F, V, D, r1, lo1, hi1, R1, r2, lo2, hi2, R2, hD, hp1, hp2⟩ := HDk.out
        have HDd := Lib.hid (hD.made ((Below.refl _ wr).drew))
        have HP2 := Lib.hid hp2
        obtain ⟨l0, l1, l2, l3, _⟩ := HDd.out.cells
        have HS := Lib.hid (same_any HDd.out.sin HDd.out.now hp1 HDd.out.ap1 HDd.out.fl (by omega))
        clear hD hp1 hp2 HDk HDO
        go_upto_region 12 with fail
        go_region_held3 (fun w' => w'.cell? ⟨W, 1, none⟩ = some (.pointer (some ⟨s, 0, none⟩)) ∧ w'.cell? ⟨W, 2, none⟩ = some (.pointer (some ⟨r1, 0, none⟩))) (go_keep)
          (first
          | (go_at_call 21; refine HS.out.mono ?_; rintro e w5 ⟨rfl, hS⟩
             have HD5 := Lib.hid (HDd.out.space hS)
             obtain ⟨m0, m1, m2, m3, _⟩ := HD5.out.cells
             clear hS HS))
        have HO := Lib.hid (reopen HD5.out.sin HP2.out (by omega))
        go_wp2_with fail
        refine HO.out.mono ?_
        rintro e w6 ⟨s', F', V', rfl, hS6, hR6, hU6, hF6⟩
        have hWl := lt_of HD5.out.out.obj
        have m6 : w6.cell? ⟨W, 3, none⟩ = some (.pointer (some ⟨r2, 0, none⟩)) := (hU6.cell (p := ⟨W, 3, none⟩) hWl HD5.out.out.out).trans m3
        have HS7 := Lib.hid (same_any hS6.lt (HD5.out.was.upd hU6 HD5.out.ap2.no) hR6 ⟨Nat.le_trans HD5.out.ap2.top hU6.size, fun b h1 h2 hb => (hF6 b hb.1).elim (HD5.out.ap2.no b h1 h2) (fun hb => by have := HD5.out.ap2.top; omega)⟩ (fun b hb => hb.2) (by omega))
        clear hS6 hR6 hU6 hF6 HO m0 m1 m2 m3
        go_wp2_with fail
        refine HS7.out.mono ?_
        rintro e w7 ⟨rfl, hS7⟩
        have hB7 := hS7.sin.below
        clear hS7 HS7
        go_wp2
        go_ret
        exact ⟨rfl, hB7⟩
end Go.Proofs.YtdoankamaobkoaaGreatDoor
