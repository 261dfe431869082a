/- journal.Commit. -/
import Derived.Test.YtdoankamaobkoaaGreatDoorAll
import Derived.Test.YtdoankamaobkoaaGreatDoorJWrite
set_option linter.unusedSimpArgs false
set_option linter.unusedVariables false
namespace Go.Proofs.YtdoankamaobkoaaGreatDoor
open Go.RowKit Go.Maps Go.Shelf

def Dsk.commit (S : Dsk) (l : Pgs) : Int × Dsk := if jMay S.n l ≠ 0 then (jMay S.n l, S) else if l = [] then (0, S) else S.writes (allL S.n l)

theorem isPage_lt {n i : Int} (h : isPage n i = true) : 0 ≤ i ∧ i < 8192 := by
  have h1 := jFirst_bd n
  have h2 := jPages_bd n
  simp [isPage] at h
  rcases h with h | h <;> omega
theorem jMayL_ok (n : Int) : ∀ (l : Pgs) (seen : List Int), jMayL n l seen = 0 → ∀ q ∈ l, isPage n q.1 = true ∧ q.2.size = 256
  | [], _, _, q, hq => by simp at hq
  | p :: r, seen, h, q, hq => by
    unfold jMayL at h
    split at h
    · simp at h
    · rename_i h1
      split at h
      · simp at h
      · rename_i h2
        split at h
        · simp at h
        · rcases List.mem_cons.1 hq with rfl | hq
          · exact ⟨by simpa using h1, by omega⟩
          · exact jMayL_ok n r _ h q hq
theorem jMay_ok {n : Int} {l : Pgs} (h : jMay n l = 0) : (l.length : Int) ≤ jPages n ∧ ∀ q ∈ l, isPage n q.1 = true ∧ q.2.size = 256 := by
  unfold jMay at h
  split at h
  · simp at h
  · exact ⟨by omega, jMayL_ok n l _ h⟩
theorem allL_length (n : Int) (l : Pgs) : (allL n l).length ≤ 3 * l.length + 3 := by
  simp [allL, copiesL, rowsL, homeL, jList_length]
  omega
theorem allL_sizes (n : Int) {l : Pgs} (hl : ∀ q ∈ l, q.2.size = 256) : ∀ q ∈ allL n l, q.2.size = 256 := by
  intro q hq
  simp only [allL, List.mem_append, List.mem_cons, copiesL, rowsL, homeL, List.mem_map, List.mem_range] at hq
  rcases hq with ⟨i, hi, rfl⟩ | ⟨i, hi, rfl⟩ | rfl | hq | hq
  · have : l.getD i (0, ⟨#[]⟩) = l[i] := by simp [hi]
    simp only [this]
    exact hl _ (List.getElem_mem hi)
  · have : (jList l).getD i ⟨#[]⟩ = (jList l)[i] := by simp [hi]
    simp only [this]
    exact jList_sizes l _ (List.getElem_mem hi)
  · exact jTop_size l
  · exact hl q hq
  · simp at hq
    subst hq
    exact padB_size (by decide)

theorem all_any (m : Int) (a : Option Addr) (k c : Nat) (w : World) :
    Calls Tryz.prog 98 #[.int .i64 m, .slice a k c] w fun e w' => e = .returned (.func (.func 120) #[] #[.pointer (some ⟨w.heap.size + 1, 0, none⟩), .pointer (some ⟨w.heap.size, 0, none⟩)]) ∧
      w' = (w.alloc (.cells #[.int .i64 m] 3)).alloc (.cells #[.slice a k c] 81) := by
  go_enter Tryz.func98, Tryz.ntmps98
  go_wp2
  go_ret
  exact ⟨rfl, rfl⟩

set_option maxRecDepth 100000 in
set_option maxHeartbeats 2000000 in
theorem jcommit_any {w : World} {d bb g cap : Nat} {a : Option Addr} {lg : Value} {S : Dsk} {og : Obj} (h : DiskAt w d bb lg S) (hleft : S.told = true → 0 ≤ S.left ∧ S.left < 9223372036854775808) (l : Pgs) (hlog : S.log.length < 999999000000) (hlen : l.length ≤ 4096)
    (hwf : ∀ q ∈ l, (Lit.int .i64 q.1).wf = true) (ha : l ≠ [] → a = some ⟨g, 0, none⟩) (hg : w.heap[g]? = some og) (hog : RowP og l) (hgd : ¬ dfp d bb lg g) :
    Calls Tryz.prog 72 #[.pointer (some ⟨d, 0, none⟩), .slice a l.length cap] w fun e w' => e = .returned (.int .i64 (S.commit l).1) ∧ ∃ lg', DStp d bb lg lg' w w' (S.commit l).2 := by
  have hD0 : DStp d bb lg lg w w S := ⟨h, Upd.refl _ _, fun b hb => .inl hb⟩
  have hPI : PagesIn w a l := ⟨g, ha, lt_of hg, fun i hi => by
    rw [show l.getD i (0, ⟨#[]⟩) = l[i] by simp [hi]]
    exact hog.cell hg hi⟩
  have hL := len_any h
  have hM := jmay_any S.n a cap l w hPI hwf hlen
  have hn : S.n = (S.blocks.length : Int) := rfl
  by_cases hm : jMay S.n l ≠ 0
  · rw [show S.commit l = (jMay S.n l, S) from if_pos hm]
    have hb : (jMay S.n l != 0) = true := by simpa using hm
    rw [hn] at hM
    rw [hn] at hb ⊢
    have HD := Lib.hid hD0
    clear h hleft hog hgd hPI hm hD0
    generalize jMay (S.blocks.length : Int) l = mv at *
    go_enter Tryz.func72, Tryz.ntmps72
    go_wp2_with (first
      | (go_at_call 49; refine hL.mono ?_; rintro e w' ⟨rfl, rfl⟩)
      | (go_at_call 97; refine hM.mono ?_; rintro e w1 ⟨rfl, hB1⟩))
    go_ret
    exact ⟨rfl, lg, HD.out.made hB1⟩
  · have hm0 : jMay S.n l = 0 := by omega
    rw [hm0] at hM
    by_cases hl : l = []
    · rw [show S.commit l = (0, S) by unfold Dsk.commit; rw [if_neg hm, if_pos hl]]
      subst hl
      rw [hn] at hM
      have HD := Lib.hid hD0
      clear h hleft hog hgd hPI hm hD0
      go_enter Tryz.func72, Tryz.ntmps72
      go_wp2_with (first
        | (go_at_call 49; refine hL.mono ?_; rintro e w' ⟨rfl, rfl⟩)
        | (go_at_call 97; refine hM.mono ?_; rintro e w1 ⟨rfl, hB1⟩))
      go_ret
      exact ⟨rfl, lg, HD.out.made hB1⟩
    · rw [show S.commit l = S.writes (allL S.n l) by unfold Dsk.commit; rw [if_neg hm, if_neg hl]]
      obtain ⟨hmlen, hmall⟩ := jMay_ok hm0
      have hae := ha hl
      subst hae
      have HW : Hid (∀ w1, Below w.heap.size w w1 → Calls Tryz.prog 82 #[.pointer (some ⟨d, 0, none⟩), .func (.func 120) #[] #[.pointer (some ⟨w1.heap.size + 1, 0, none⟩), .pointer (some ⟨w1.heap.size, 0, none⟩)]]
          ((w1.alloc (.cells #[.int .i64 S.blocks.length] 3)).alloc (.cells #[.slice (some ⟨g, 0, none⟩) l.length cap] 81)) fun e w' =>
            e = .returned (.int .i64 (S.writes (allL S.n l)).1) ∧ ∃ lg', DStp d bb lg lg' w w' (S.writes (allL S.n l)).2) := by
        intro w1 hB1
        have hs1 := hB1.size
        have hbel : Below w1.heap.size w1 ((w1.alloc (.cells #[.int .i64 S.blocks.length] 3)).alloc (.cells #[.slice (some ⟨g, 0, none⟩) l.length cap] 81)) := ((Below.refl _ w1).alloc (Nat.le_refl _) _).alloc (by simp) _
        have hs2 : ((w1.alloc (.cells #[.int .i64 S.blocks.length] 3)).alloc (.cells #[.slice (some ⟨g, 0, none⟩) l.length cap] 81)).heap.size = w1.heap.size + 2 := by simp
        have hS0 : Safe d bb (fun _ => False) w [(g, og)] := ⟨lg, S, h, fun p hp => by simp at hp; subst hp; exact ⟨hg, hgd, fun x => x⟩⟩
        have hS1 : Safe d bb (fun _ => False) w1 [(g, og)] := hS0.kd (KD.below hB1)
        have hS2 : Safe d bb (fun _ => False) (w1.alloc (.cells #[.int .i64 S.blocks.length] 3)) [(w1.heap.size, .cells #[.int .i64 S.blocks.length] 3), (g, og)] :=
          hS1.add ((Below.refl _ w1).alloc (Nat.le_refl _) _) (fun b hb => hb.elim) (Nat.le_refl _) (heap_alloc_new' w1 _)
        have hS3 := hS2.add (o := .cells #[.slice (some ⟨g, 0, none⟩) l.length cap] 81) ((Below.refl _ _).alloc (Nat.le_refl _) _) (fun b hb => hb.elim) (Nat.le_refl _) (heap_alloc_new' _ _)
        rw [World.size_alloc] at hS3
        have hD1 := (hD0.made hB1).made hbel
        generalize hw2 : (w1.alloc (.cells #[.int .i64 S.blocks.length] 3)).alloc (.cells #[.slice (some ⟨g, 0, none⟩) l.length cap] 81) = w2 at *
        have hal := allL_length S.n l
        refine (jwrite_any (fn := Tryz.f120) hD1.at_ hleft (allL S.n l) (by omega) (fun q hq => by have := allL_sizes S.n (fun q hq => (hmall q hq).2) q hq; omega) (enters_of Tryz.func120 (by kernel_rfl) rfl) ?_).mono ?_
        · intro w' hB' hsz'
          refine all1_yields (X := fun b => b = w2.heap.size + 1) (g := g) (cap := cap) (m := S.n) (og := og) rfl rfl hog hlen hl (fun q hq => by have := isPage_lt (hmall q hq).1; omega) (fun q hq => (hmall q hq).2) (fun b hb => by omega) ?_
          have h4 := (hS3.kd (KD.below hB')).also (Y := fun b => b = w2.heap.size + 1) (by
            intro p hp e
            have hb := lt_of (hS3.obj (b := p.1) (o := p.2) hp)
            omega)
          obtain ⟨lgx, Sx, hDx, hpx⟩ := h4
          exact ⟨lgx, Sx, hDx, fun p hp => ⟨(hpx p hp).1, (hpx p hp).2.1, fun hx => (hpx p hp).2.2 (.inl hx)⟩⟩
        · rintro e w' ⟨he, lg', hst⟩
          exact ⟨he, lg', hD1.then hst⟩
      have HL := Lib.hid h
      have HLEN : Hid (∀ w1, Below w.heap.size w w1 → Calls Tryz.prog 49 #[.pointer (some ⟨d, 0, none⟩)] w1 fun e w' => e = .returned (.int .i64 S.blocks.length) ∧ w1 = w') := fun w1 hB1 => len_any (h.below hB1)
      rw [hn] at hM
      have hlz : ((l.length : Int) == 0) = false := by
        have : l.length ≠ 0 := fun e => hl (List.length_eq_zero_iff.1 e)
        simp; exact hl
      clear h hleft hog hgd hPI hm hD0 hmall hmlen hm0
      go_enter Tryz.func72, Tryz.ntmps72
      go_wp2_with fail
      refine hL.mono ?_
      rintro e w' ⟨rfl, rfl⟩
      go_wp2_with fail
      refine hM.mono ?_
      rintro e w1 ⟨rfl, hB1⟩
      go_wp2_with fail
      refine (HLEN.out w1 hB1).mono ?_
      rintro e w' ⟨rfl, rfl⟩
      go_wp2_with fail
      refine (all_any _ _ _ _ _).mono ?_
      rintro e w' ⟨rfl, rfl⟩
      have hw := HW.out w1 hB1
      clear HW HLEN hL hM
      go_wp2_with fail
      refine hw.mono ?_
      rintro e w3 ⟨rfl, hst⟩
      have HST := Lib.hid hst
      clear hst hw
      go_wp2
      go_ret
      exact ⟨rfl, HST.out⟩
end Go.Proofs.YtdoankamaobkoaaGreatDoor
