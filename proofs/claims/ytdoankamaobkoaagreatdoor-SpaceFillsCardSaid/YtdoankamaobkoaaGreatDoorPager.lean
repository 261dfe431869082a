/- The pager's methods: what each call comes to. -/
import Derived.Test.YtdoankamaobkoaaGreatDoorDisk
set_option linter.unusedSimpArgs false
set_option linter.unusedVariables false
namespace Go.Proofs.YtdoankamaobkoaaGreatDoor
open Go.RowKit Go.Maps

set_option maxHeartbeats 400000 in
theorem pmay_any {w : World} {L : PLoc} {S : Pgr} (h : PagerAt w L S) (i : Int) :
    Calls Tryz.prog 84 #[.pointer (some ⟨L.p, 0, none⟩), .int .i64 i] w fun e w' => e = .returned (.int .i64 (S.may i)) ∧ w = w' := by
  have hL := len_any h.disk
  have c0 := cell_of h.p 0
  simp at c0
  clear h
  unfold Pgr.may isPage Dsk.n
  generalize S.disk.blocks.length = n at *
  have hF := jFirst_bd n
  have hP := jPages_bd n
  by_cases h0 : i = 0
  · subst h0
    rw [if_pos (by simp)]
    go_enter Tryz.func84, Tryz.ntmps84
    go_wp2_with (first
      | (go_at_call 49; refine hL.mono ?_; rintro e w' ⟨rfl, rfl⟩)
      | (go_at_call 69; refine (first_any _ _).mono ?_; rintro e w' ⟨rfl, rfl⟩)
      | (go_at_call 70; refine (pages_any _ _).mono ?_; rintro e w' ⟨rfl, rfl⟩))
    go_ret
    exact ⟨rfl, rfl⟩
  · have hi : (i != 0) = true := by simpa using h0
    by_cases h1 : i < jFirst n
    · rw [if_neg (by simp [h0]; omega)]
      clear h0
      go_enter Tryz.func84, Tryz.ntmps84
      go_wp2_with (first
        | (go_at_call 49; refine hL.mono ?_; rintro e w' ⟨rfl, rfl⟩)
        | (go_at_call 69; refine (first_any _ _).mono ?_; rintro e w' ⟨rfl, rfl⟩)
        | (go_at_call 70; refine (pages_any _ _).mono ?_; rintro e w' ⟨rfl, rfl⟩))
      go_ret
      exact ⟨rfl, rfl⟩
    · have h1' : jFirst n ≤ i := by omega
      by_cases h2 : i < jFirst n + jPages n - 1
      · rw [if_pos (by simp [h0]; omega)]
        clear h0 h1
        go_enter Tryz.func84, Tryz.ntmps84
        go_wp2_with (first
          | (go_at_call 49; refine hL.mono ?_; rintro e w' ⟨rfl, rfl⟩)
          | (go_at_call 69; refine (first_any _ _).mono ?_; rintro e w' ⟨rfl, rfl⟩)
          | (go_at_call 70; refine (pages_any _ _).mono ?_; rintro e w' ⟨rfl, rfl⟩))
        go_ret
        exact ⟨rfl, rfl⟩
      · rw [if_neg (by simp [h0]; omega)]
        have h2' : jFirst n + jPages n - 1 ≤ i := by omega
        clear h0 h1 h2
        go_enter Tryz.func84, Tryz.ntmps84
        go_wp2_with (first
          | (go_at_call 49; refine hL.mono ?_; rintro e w' ⟨rfl, rfl⟩)
          | (go_at_call 69; refine (first_any _ _).mono ?_; rintro e w' ⟨rfl, rfl⟩)
          | (go_at_call 70; refine (pages_any _ _).mono ?_; rintro e w' ⟨rfl, rfl⟩))
        go_ret
        exact ⟨rfl, rfl⟩

/-! 'use': the clock goes on, and is written into a page. -/
set_option maxHeartbeats 400000 in
theorem use_any {w : World} {L : PLoc} {S : Pgr} (h : PagerAt w L S) (b : Nat) (v0 v1 v2 : Value) (hb : w.heap[b]? = some (.cells #[v0, v1, v2] 132 (0, 0)))
    (hc : 0 ≤ S.clock ∧ S.clock < 4611686018427387904) :
    Calls Tryz.prog 85 #[.pointer (some ⟨L.p, 0, none⟩), .pointer (some ⟨b, 0, none⟩)] w fun e w' => e = .returned (.tuple #[]) ∧
      (w.setCell ⟨L.p, 4, none⟩ (.int .i64 (S.clock + 1))).setCell ⟨b, 2, none⟩ (.int .i64 (S.clock + 1)) = w' := by
  have c4 := cell_of h.p 4
  have f4 := frozen_of h.p 4
  have b2 := cell_of hb 2
  have g2 := frozen_of hb 2
  have hne : L.p ≠ b := by
    intro e; have := h.p; rw [e, hb] at this; simp at this
  simp at c4 b2
  clear h hb
  generalize S.clock = c at *
  have hne' : ¬ b = L.p := fun e => hne e.symm
  obtain ⟨hc0, hc1⟩ := hc
  go_enter Tryz.func85, Tryz.ntmps85
  go_wp2
  go_end0
  exact ⟨rfl, rfl⟩

theorem use_at {w : World} {L : PLoc} {S : Pgr} (h : PagerAt w L S) (hs : Srt S.held) {i : Int} {x : Pg} (hx : get i S.held = some x)
    (hc : 0 ≤ S.clock ∧ S.clock < 4611686018427387904) :
    Calls Tryz.prog 85 #[.pointer (some ⟨L.p, 0, none⟩), .pointer (some ⟨L.blk i, 0, none⟩)] w fun e w' => e = .returned (.tuple #[]) ∧
      PagerAt w' L (S.use i x) ∧ Upd (L.fp S) w w' := by
  have hpg := h.page _ (get_mem hx)
  simp only at hpg
  refine (use_any h _ _ _ _ hpg hc).mono ?_
  rintro e w' ⟨rfl, rfl⟩
  refine ⟨rfl, ?_, ((Upd.refl _ w).setCell _ (fun _ => .inl rfl) _).setCell _ (fun _ => .inr (.inr (.inr (.inr (.inr (.inr ⟨_, get_mem hx, rfl⟩)))))) _⟩
  have h1 := h.top (c := S.clock + 1) (r := S.reads) (w' := w.setCell ⟨L.p, 4, none⟩ (.int .i64 (S.clock + 1)))
    (by rw [heap_setCell_same h.p]; simp) (fun b hb => Below.heap_setCell _ _ _ _ hb)
  have hpg1 := h1.page _ (get_mem hx)
  exact h1.turnPage hs (i := i) (x := x) (y := { x with used := S.clock + 1 }) hx (by rw [heap_setCell_same hpg1]; simp) (fun b hb => Below.heap_setCell _ _ _ _ hb)

set_option maxHeartbeats 400000 in
theorem pread_at {w : World} {L : PLoc} {S : Pgr} (h : PagerAt w L S) (i : Int) (hr : 0 ≤ S.reads ∧ S.reads < 4611686018427387904) :
    Calls Tryz.prog 86 #[.pointer (some ⟨L.p, 0, none⟩), .int .i64 i] w fun e w' => e = .returned (.tuple #[.string (S.disk.read i).1, .int .i64 (S.disk.read i).2]) ∧
      PagerAt w' L (S.read i).2 ∧ Upd (L.fp S) w w' := by
  have hR := read_any h.disk i
  have c0 := cell_of h.p 0
  have c5 := cell_of h.p 5
  have f5 := frozen_of h.p 5
  simp at c0 c5
  by_cases hz : (S.disk.read i).2 = 0
  · have hS : (S.read i).2 = { S with reads := S.reads + 1 } := by simp [Pgr.read, hz]
    rw [hS, hz]
    rw [hz] at hR
    have h1 := h.top (c := S.clock) (r := S.reads + 1) (w' := w.setCell ⟨L.p, 5, none⟩ (.int .i64 (S.reads + 1)))
      (by rw [heap_setCell_same h.p]; simp) (fun b hb => Below.heap_setCell _ _ _ _ hb)
    have hU : Upd (L.fp S) w (w.setCell ⟨L.p, 5, none⟩ (.int .i64 (S.reads + 1))) := (Upd.refl _ w).setCell _ (fun _ => .inl rfl) _
    clear h hS hz
    generalize (S.disk.read i).1 = s at *
    have H1 := Lib.hid h1
    have HU := Lib.hid hU
    clear h1 hU
    obtain ⟨hr0, hr1⟩ := hr
    go_enter Tryz.func86, Tryz.ntmps86
    go_wp2_with (go_at_call 80; refine hR.mono ?_; rintro e w' ⟨rfl, rfl⟩)
    go_ret2
    exact ⟨rfl, H1.out, HU.out⟩
  · have hS : (S.read i).2 = S := by simp [Pgr.read, hz]
    rw [hS]
    have hz' : ((S.disk.read i).2 == 0) = false := by simpa using hz
    have H1 := Lib.hid h
    have HU := Lib.hid (Upd.refl (L.fp S) w)
    clear h hS hz
    generalize (S.disk.read i).1 = s at *
    generalize (S.disk.read i).2 = e at *
    go_enter Tryz.func86, Tryz.ntmps86
    go_wp2_with (go_at_call 80; refine hR.mono ?_; rintro e w' ⟨rfl, rfl⟩)
    go_ret2
    exact ⟨rfl, H1.out, HU.out⟩

end Go.Proofs.YtdoankamaobkoaaGreatDoor
