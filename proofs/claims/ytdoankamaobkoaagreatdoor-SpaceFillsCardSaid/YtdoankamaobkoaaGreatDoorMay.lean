/- journal.page, journal.may: may a group be written? -/
import Derived.Test.YtdoankamaobkoaaGreatDoorTop
set_option linter.unusedSimpArgs false
set_option linter.unusedVariables false
namespace Go.Proofs.YtdoankamaobkoaaGreatDoor
open Go.RowKit Go.Maps Go.Shelf

set_option maxHeartbeats 400000 in
theorem page_any (n i : Int) (w : World) :
    Calls Tryz.prog 119 #[.int .i64 n, .int .i64 i] w fun e w' => e = .returned (.bool (isPage n i)) ∧ w = w' := by
  have hF := jFirst_bd n
  have hP := jPages_bd n
  by_cases h0 : i = 0
  · subst h0
    rw [show isPage n 0 = true from by simp [isPage]]
    go_enter Tryz.func119, Tryz.ntmps119
    go_wp2_with (first
      | (go_at_call 69; refine (first_any _ _).mono ?_; rintro e w' ⟨rfl, rfl⟩)
      | (go_at_call 70; refine (pages_any _ _).mono ?_; rintro e w' ⟨rfl, rfl⟩))
    go_ret
    exact ⟨rfl, rfl⟩
  · have hi : (i == 0) = false := by simpa using h0
    by_cases h1 : i < jFirst n
    · rw [show isPage n i = false by simp [isPage, h0]; omega]
      clear h0
      go_enter Tryz.func119, Tryz.ntmps119
      go_wp2_with (first
        | (go_at_call 69; refine (first_any _ _).mono ?_; rintro e w' ⟨rfl, rfl⟩)
        | (go_at_call 70; refine (pages_any _ _).mono ?_; rintro e w' ⟨rfl, rfl⟩))
      go_ret
      exact ⟨rfl, rfl⟩
    · have h1' : jFirst n ≤ i := by omega
      by_cases h2 : i < jFirst n + jPages n - 1
      · rw [show isPage n i = true by simp [isPage]; omega]
        clear h0 h1
        go_enter Tryz.func119, Tryz.ntmps119
        go_wp2_with (first
          | (go_at_call 69; refine (first_any _ _).mono ?_; rintro e w' ⟨rfl, rfl⟩)
          | (go_at_call 70; refine (pages_any _ _).mono ?_; rintro e w' ⟨rfl, rfl⟩))
        go_ret
        exact ⟨rfl, rfl⟩
      · rw [show isPage n i = false by simp [isPage, h0]; omega]
        have h2' : jFirst n + jPages n - 1 ≤ i := by omega
        have hd : decide (i < jFirst n + jPages n - 1) = false := by simp; omega
        clear h0 h1 h2
        go_enter Tryz.func119, Tryz.ntmps119
        go_wp2_with (first
          | (go_at_call 69; refine (first_any _ _).mono ?_; rintro e w' ⟨rfl, rfl⟩)
          | (go_at_call 70; refine (pages_any _ _).mono ?_; rintro e w' ⟨rfl, rfl⟩))
        go_ret
        exact ⟨rfl, rfl⟩

def jMayL (n : Int) : List (Int × ByteArray) → List Int → Int
  | [], _ => 0
  | p :: r, seen => if isPage n p.1 = false then 1 else if p.2.size ≠ 256 then 3 else if p.1 ∈ seen then 9 else jMayL n r (p.1 :: seen)
def jMay (n : Int) (l : List (Int × ByteArray)) : Int := if jPages n < (l.length : Int) then 10 else jMayL n l []

/-- the map 'seen' -/
def JSeen (sl : List (Int × Value)) (seen : List Int) : Prop := ∀ k, (get k sl).getD (.int .i64 0) = .int .i64 (if k ∈ seen then 1 else 0)
theorem JSeen.ins {sl : List (Int × Value)} {seen : List Int} (h : JSeen sl seen) (k : Int) : JSeen (ins k (.int .i64 1) sl) (k :: seen) := by
  intro k'
  by_cases he : k' = k
  · subst he; rw [get_ins_same]; simp
  · rw [get_ins_other he, h k']
    simp [he]

set_option maxRecDepth 100000 in
set_option maxHeartbeats 2000000 in
theorem jmay_any (n : Int) (a : Option Addr) (cap : Nat) (l : List (Int × ByteArray)) (w : World) (hl : PagesIn w a l) (hwf : ∀ q ∈ l, (Lit.int .i64 q.1).wf = true) (hlen : l.length ≤ 4096) :
    Calls Tryz.prog 97 #[.int .i64 n, .slice a l.length cap] w fun e w' => e = .returned (.int .i64 (jMay n l)) ∧ Below w.heap.size w w' := by
  obtain ⟨g, ha, hg, hcell⟩ := hl
  have HC := Lib.hid hcell
  have HA := Lib.hid ha
  have HWF := Lib.hid hwf
  have hP := jPages_bd n
  clear hcell ha hwf
  by_cases hm : jPages n < (l.length : Int)
  · rw [show jMay n l = 10 from if_pos hm]
    go_enter Tryz.func97, Tryz.ntmps97
    go_wp2_with (go_at_call 70; refine (pages_any _ _).mono ?_; rintro e w' ⟨rfl, rfl⟩)
    go_ret
    exact ⟨rfl, Below.refl _ _⟩
  · obtain ⟨R, HR⟩ : ∃ R, Hid (jMayL n l [] = R) := ⟨_, Lib.hid rfl⟩
    rw [show jMay n l = R from (if_neg hm).trans HR.out]
    have hm' : (l.length : Int) ≤ jPages n := by omega
    obtain ⟨N, hN⟩ : ∃ N, N = l.length := ⟨_, rfl⟩
    rw [← hN] at hm' hlen ⊢
    have HN := Lib.hid hN
    clear hm hN
    have hmm := @run_makeMap Tryz.prog
    go_enter Tryz.func97, Tryz.ntmps97
    go_wp2_with (go_at_call 70; refine (pages_any _ _).mono ?_; rintro e w' ⟨rfl, rfl⟩)
    go_loopw [16] (fun u wr => ∃ (j : Nat) (sl : List (Int × Value)) (seen : List Int), u = .int .i64 j ∧ j ≤ N ∧ sl.length ≤ j ∧ Hid (jMayL n (l.drop j) seen = R) ∧ Hid (JSeen sl seen) ∧ Hid (MapV wr w.heap.size sl) ∧ Below w.heap.size w wr) (fun u _ => N - (intOf u).toNat)
    case atStart => exact ⟨0, [], [], rfl, by omega, by simp, by show _ = _; rw [List.drop_zero]; exact HR.out, by intro k; simp [get], MapV.made w, (Below.refl _ w).alloc (Nat.le_refl _) _⟩
    case round =>
      obtain ⟨j, sl, seen, rfl, hj, hsl, HF, HS, HM, hB⟩ := hrel
      by_cases hlt : j < N
      · have hlt' : j < l.length := by rw [← HN.out]; exact hlt
        obtain ⟨c0, c1⟩ := HC.out j hlt'
        have hb0 := hB.cell (p := ⟨g, j * 2, none⟩) hg
        have hb1 := hB.cell (p := ⟨g, j * 2 + 1, none⟩) hg
        rw [c0] at hb0
        rw [c1] at hb1
        have hge : l.getD j (0, ⟨#[]⟩) = l[j] := by simp [hlt']
        rw [hge] at hb0 hb1
        have hwf := HWF.out _ (List.getElem_mem hlt')
        have hae : a = some ⟨g, 0, none⟩ := HA.out (by intro h; rw [h] at hlt'; simp at hlt')
        subst hae
        have HF1 : Hid ((if isPage n l[j].1 = false then 1 else if l[j].2.size ≠ 256 then 3 else if l[j].1 ∈ seen then 9 else jMayL n (l.drop (j + 1)) (l[j].1 :: seen)) = R) := by
          show _ = _
          rw [← HF.out, List.drop_eq_getElem_cons (i := j) (l := l) hlt']
          rfl
        clear HF c0 c1 hge
        generalize l[j].2 = x at *
        generalize l[j].1 = y at *
        by_cases hp : isPage n y = false
        · have hR : R = 1 := by rw [← HF1.out, if_pos hp]
          have hpg := fun W => page_any n y W
          rw [hp] at hpg
          subst hR
          clear HF1 HS HM HA HC HWF HR
          go_wp2_with (go_at_call 119; refine (hpg _).mono ?_; rintro e w' ⟨rfl, rfl⟩)
          go_ret
          exact ⟨rfl, hB.alloc hB.size _⟩
        · have hp' : isPage n y = true := by simpa using hp
          have hpg := fun W => page_any n y W
          rw [hp'] at hpg
          by_cases hx : x.size ≠ 256
          · have hR : R = 3 := by rw [← HF1.out, if_neg hp, if_pos hx]
            have hxb : ((x.size : Int) != 256) = true := by simp; omega
            subst hR
            clear HF1 HS HM HA HC HWF HR
            go_wp2_with (go_at_call 119; refine (hpg _).mono ?_; rintro e w' ⟨rfl, rfl⟩)
            go_ret
            exact ⟨rfl, hB.alloc hB.size _⟩
          · have hx' : x.size = 256 := by omega
            have hM2 : MapV (wr.alloc (.cells #[.int .i64 y, .string x] 112)) w.heap.size sl := HM.out.congr (Below.heap_alloc wr _ _ HM.out.lt)
            have hlook := hM2.look (k := y) Tryz.underlying185 (z := .int .i64 0) (by kernel_rfl) hwf
            rw [HS.out y] at hlook
            by_cases hse : y ∈ seen
            · have hR : R = 9 := by rw [← HF1.out, if_neg hp, if_neg hx, if_pos hse]
              rw [if_pos hse] at hlook
              subst hR
              clear HF1 HS HM HA HC HWF HR hM2
              go_wp2_with (go_at_call 119; refine (hpg _).mono ?_; rintro e w' ⟨rfl, rfl⟩)
              go_ret
              exact ⟨rfl, hB.alloc hB.size _⟩
            · have HF2 : Hid (jMayL n (l.drop (j + 1)) (y :: seen) = R) := by show _ = _; rw [← HF1.out, if_neg hp, if_neg hx, if_neg hse]
              rw [if_neg hse] at hlook
              obtain ⟨w3, hput, hM3, hT⟩ := hM2.put (k := y) Tryz.underlying185 (by unfold maxLen; omega) hwf (.int .i64 1)
              have HS3 := Lib.hid (HS.out.ins y)
              have HM3 := Lib.hid hM3
              have HB3 : Hid (Below w.heap.size w w3) := by
                have hb := hB.alloc hB.size (.cells #[.int .i64 y, .string x] 112)
                exact ⟨hT.os.trans hb.os, hT.tape.trans hb.tape, hT.output.trans hb.output, by rw [hT.size]; exact hb.size, fun k hk => (hT.block k (by omega)).trans (hb.block k hk)⟩
              have hil := ins_length_le (k := y) (v := Value.int .i64 1) (l := sl)
              clear HF1 HS HM hM2 hM3 hT HR
              go_wp2_with (go_at_call 119; refine (hpg _).mono ?_; rintro e w' ⟨rfl, rfl⟩)
              go_roundw
              case rel => exact ⟨j + 1, _, _, rfl, by omega, by omega, HF2, HS3, HM3, HB3.out⟩
              case measure => simp [intOf]; omega
      · obtain rfl : j = N := by omega
        have hR : R = 0 := by rw [← HF.out, List.drop_of_length_le (by rw [← HN.out]; exact Nat.le_refl _)]; rfl
        subst hR
        go_wp2
        go_ret
        exact ⟨rfl, hB⟩
end Go.Proofs.YtdoankamaobkoaaGreatDoor
