/- journal.Commit · Commit as plain data: the disk stays a disk, the pager a pager; what is changed may be written · The pager's Commit · A pager whose held pages are as they lie on the disk; and what a Commit writes, where no cut is told · Commit and Undo of a pager that lies in what was made · What a page of the plain pager shows: what was stored last, or else what lies on the disk. -/
import Derived.Test.YtmgcaohpbaiiaaaGreatDoorAll
import Derived.Test.YtmgcaohpbaiiaaaGreatDoorJ1
namespace Go.Proofs.YtmgcaohpbaiiaaaGreatDoor
/-! JCommit -/
section
set_option linter.unusedSimpArgs false
set_option linter.unusedVariables false
open Go.RowKit Go.Maps Go.Shelf

def Dsk.commit (S : Dsk) (l : Pgs) : Int × Dsk := if jMay S.n l ≠ 0 then (jMay S.n l, S) else if l = [] then (0, S) else S.writes (allL S.n l)

theorem isPage_lt {n i : Int} (h : isPage n i = true) : 0 ≤ i ∧ i < 8192 := by
  have h1 := jFirst_bd n
  have h2 := jPages_bd n
  simp [isPage] at h
  rcases h with h | h <;> omega
theorem jMayL_ok (n : Int) : ∀ (l : Pgs) (seen : List Int), jMayL n l seen = 0 → ∀ q ∈ l, isPage n q.1 = true ∧ q.2.size = 256
  | [], _, _, q, hq => by simp at hq
  | p :: r, seen, h, q, hq => by
    unfold jMayL at h
    split at h
    · simp at h
    · rename_i h1
      split at h
      · simp at h
      · rename_i h2
        split at h
        · simp at h
        · rcases List.mem_cons.1 hq with rfl | hq
          · exact ⟨by simpa using h1, by omega⟩
          · exact jMayL_ok n r _ h q hq
theorem jMay_ok {n : Int} {l : Pgs} (h : jMay n l = 0) : (l.length : Int) ≤ jPages n ∧ ∀ q ∈ l, isPage n q.1 = true ∧ q.2.size = 256 := by
  unfold jMay at h
  split at h
  · simp at h
  · exact ⟨by omega, jMayL_ok n l _ h⟩
theorem allL_length (n : Int) (l : Pgs) : (allL n l).length ≤ 3 * l.length + 3 := by
  simp [allL, copiesL, rowsL, homeL, jList_length]
  omega
theorem allL_sizes (n : Int) {l : Pgs} (hl : ∀ q ∈ l, q.2.size = 256) : ∀ q ∈ allL n l, q.2.size = 256 := by
  intro q hq
  simp only [allL, List.mem_append, List.mem_cons, copiesL, rowsL, homeL, List.mem_map, List.mem_range] at hq
  rcases hq with ⟨i, hi, rfl⟩ | ⟨i, hi, rfl⟩ | rfl | hq | hq
  · have : l.getD i (0, ⟨#[]⟩) = l[i] := by simp [hi]
    simp only [this]
    exact hl _ (List.getElem_mem hi)
  · have : (jList l).getD i ⟨#[]⟩ = (jList l)[i] := by simp [hi]
    simp only [this]
    exact jList_sizes l _ (List.getElem_mem hi)
  · exact jTop_size l
  · exact hl q hq
  · simp at hq
    subst hq
    exact padB_size (by decide)

theorem all_any (m : Int) (a : Option Addr) (k c : Nat) (w : World) :
    Calls Tryz.prog 176 #[.int .i64 m, .slice a k c] w fun e w' => e = .returned (.func (.func 181) #[] #[.pointer (some ⟨w.heap.size + 1, 0, none⟩), .pointer (some ⟨w.heap.size, 0, none⟩)]) ∧
      w' = (w.alloc (.cells #[.int .i64 m] 3)).alloc (.cells #[.slice a k c] 110) := by
  go_enter Tryz.func176, Tryz.ntmps176
  go_wp2
  go_ret
  exact ⟨rfl, rfl⟩

set_option maxRecDepth 100000 in
set_option maxHeartbeats 2000000 in
theorem jcommit_any {w : World} {d bb g cap : Nat} {a : Option Addr} {lg : Value} {S : Dsk} {og : Obj} (h : DiskAt w d bb lg S) (hleft : S.told = true → 0 ≤ S.left ∧ S.left < 9223372036854775808) (l : Pgs) (hlog : S.log.length < 999999000000) (hlen : l.length ≤ 4096)
    (hwf : ∀ q ∈ l, (Lit.int .i64 q.1).wf = true) (ha : l ≠ [] → a = some ⟨g, 0, none⟩) (hg : w.heap[g]? = some og) (hog : RowP og l) (hgd : ¬ dfp d bb lg g) :
    Calls Tryz.prog 158 #[.pointer (some ⟨d, 0, none⟩), .slice a l.length cap] w fun e w' => e = .returned (.int .i64 (S.commit l).1) ∧ ∃ lg', DStp d bb lg lg' w w' (S.commit l).2 := by
  have hD0 : DStp d bb lg lg w w S := ⟨h, Upd.refl _ _, fun b hb => .inl hb⟩
  have hPI : PagesIn w a l := ⟨g, ha, lt_of hg, fun i hi => by
    rw [show l.getD i (0, ⟨#[]⟩) = l[i] by simp [hi]]
    exact hog.cell hg hi⟩
  have hL := len_any h
  have hM := jmay_any S.n a cap l w hPI hwf hlen
  have hn : S.n = (S.blocks.length : Int) := rfl
  by_cases hm : jMay S.n l ≠ 0
  · rw [show S.commit l = (jMay S.n l, S) from if_pos hm]
    have hb : (jMay S.n l != 0) = true := by simpa using hm
    rw [hn] at hM
    rw [hn] at hb ⊢
    have HD := Lib.hid hD0
    clear h hleft hog hgd hPI hm hD0
    generalize jMay (S.blocks.length : Int) l = mv at *
    go_enter Tryz.func158, Tryz.ntmps158
    go_wp2_with (first
      | (go_at_call 65; refine hL.mono ?_; rintro e w' ⟨rfl, rfl⟩)
      | (go_at_call 150; refine hM.mono ?_; rintro e w1 ⟨rfl, hB1⟩))
    go_ret
    exact ⟨rfl, lg, HD.out.made hB1⟩
  · have hm0 : jMay S.n l = 0 := by omega
    rw [hm0] at hM
    by_cases hl : l = []
    · rw [show S.commit l = (0, S) by unfold Dsk.commit; rw [if_neg hm, if_pos hl]]
      subst hl
      rw [hn] at hM
      have HD := Lib.hid hD0
      clear h hleft hog hgd hPI hm hD0
      go_enter Tryz.func158, Tryz.ntmps158
      go_wp2_with (first
        | (go_at_call 65; refine hL.mono ?_; rintro e w' ⟨rfl, rfl⟩)
        | (go_at_call 150; refine hM.mono ?_; rintro e w1 ⟨rfl, hB1⟩))
      go_ret
      exact ⟨rfl, lg, HD.out.made hB1⟩
    · rw [show S.commit l = S.writes (allL S.n l) by unfold Dsk.commit; rw [if_neg hm, if_neg hl]]
      obtain ⟨hmlen, hmall⟩ := jMay_ok hm0
      have hae := ha hl
      subst hae
      have HW : Hid (∀ w1, Below w.heap.size w w1 → Calls Tryz.prog 104 #[.pointer (some ⟨d, 0, none⟩), .func (.func 181) #[] #[.pointer (some ⟨w1.heap.size + 1, 0, none⟩), .pointer (some ⟨w1.heap.size, 0, none⟩)]]
          ((w1.alloc (.cells #[.int .i64 S.blocks.length] 3)).alloc (.cells #[.slice (some ⟨g, 0, none⟩) l.length cap] 110)) fun e w' =>
            e = .returned (.int .i64 (S.writes (allL S.n l)).1) ∧ ∃ lg', DStp d bb lg lg' w w' (S.writes (allL S.n l)).2) := by
        intro w1 hB1
        have hs1 := hB1.size
        have hbel : Below w1.heap.size w1 ((w1.alloc (.cells #[.int .i64 S.blocks.length] 3)).alloc (.cells #[.slice (some ⟨g, 0, none⟩) l.length cap] 110)) := ((Below.refl _ w1).alloc (Nat.le_refl _) _).alloc (by simp) _
        have hs2 : ((w1.alloc (.cells #[.int .i64 S.blocks.length] 3)).alloc (.cells #[.slice (some ⟨g, 0, none⟩) l.length cap] 110)).heap.size = w1.heap.size + 2 := by simp
        have hS0 : Safe d bb (fun _ => False) w [(g, og)] := ⟨lg, S, h, fun p hp => by simp at hp; subst hp; exact ⟨hg, hgd, fun x => x⟩⟩
        have hS1 : Safe d bb (fun _ => False) w1 [(g, og)] := hS0.kd (KD.below hB1)
        have hS2 : Safe d bb (fun _ => False) (w1.alloc (.cells #[.int .i64 S.blocks.length] 3)) [(w1.heap.size, .cells #[.int .i64 S.blocks.length] 3), (g, og)] :=
          hS1.add ((Below.refl _ w1).alloc (Nat.le_refl _) _) (fun b hb => hb.elim) (Nat.le_refl _) (heap_alloc_new' w1 _)
        have hS3 := hS2.add (o := .cells #[.slice (some ⟨g, 0, none⟩) l.length cap] 110) ((Below.refl _ _).alloc (Nat.le_refl _) _) (fun b hb => hb.elim) (Nat.le_refl _) (heap_alloc_new' _ _)
        rw [World.size_alloc] at hS3
        have hD1 := (hD0.made hB1).made hbel
        generalize hw2 : (w1.alloc (.cells #[.int .i64 S.blocks.length] 3)).alloc (.cells #[.slice (some ⟨g, 0, none⟩) l.length cap] 110) = w2 at *
        have hal := allL_length S.n l
        refine (jwrite_any (fn := Tryz.f181) hD1.at_ hleft (allL S.n l) (by omega) (fun q hq => by have := allL_sizes S.n (fun q hq => (hmall q hq).2) q hq; omega) (enters_of Tryz.func181 (by kernel_rfl) rfl) ?_).mono ?_
        · intro w' hB' hsz'
          refine all1_yields (X := fun b => b = w2.heap.size + 1) (g := g) (cap := cap) (m := S.n) (og := og) rfl rfl hog hlen hl (fun q hq => by have := isPage_lt (hmall q hq).1; omega) (fun q hq => (hmall q hq).2) (fun b hb => by omega) ?_
          have h4 := (hS3.kd (KD.below hB')).also (Y := fun b => b = w2.heap.size + 1) (by
            intro p hp e
            have hb := lt_of (hS3.obj (b := p.1) (o := p.2) hp)
            omega)
          obtain ⟨lgx, Sx, hDx, hpx⟩ := h4
          exact ⟨lgx, Sx, hDx, fun p hp => ⟨(hpx p hp).1, (hpx p hp).2.1, fun hx => (hpx p hp).2.2 (.inl hx)⟩⟩
        · rintro e w' ⟨he, lg', hst⟩
          exact ⟨he, lg', hD1.then hst⟩
      have HL := Lib.hid h
      have HLEN : Hid (∀ w1, Below w.heap.size w w1 → Calls Tryz.prog 65 #[.pointer (some ⟨d, 0, none⟩)] w1 fun e w' => e = .returned (.int .i64 S.blocks.length) ∧ w1 = w') := fun w1 hB1 => len_any (h.below hB1)
      rw [hn] at hM
      have hlz : ((l.length : Int) == 0) = false := by
        have : l.length ≠ 0 := fun e => hl (List.length_eq_zero_iff.1 e)
        simp; exact hl
      clear h hleft hog hgd hPI hm hD0 hmall hmlen hm0
      go_enter Tryz.func158, Tryz.ntmps158
      go_wp2_with fail
      refine hL.mono ?_
      rintro e w' ⟨rfl, rfl⟩
      go_wp2_with fail
      refine hM.mono ?_
      rintro e w1 ⟨rfl, hB1⟩
      go_wp2_with fail
      refine (HLEN.out w1 hB1).mono ?_
      rintro e w' ⟨rfl, rfl⟩
      go_wp2_with fail
      refine (all_any _ _ _ _ _).mono ?_
      rintro e w' ⟨rfl, rfl⟩
      have hw := HW.out w1 hB1
      clear HW HLEN hL hM
      go_wp2_with fail
      refine hw.mono ?_
      rintro e w3 ⟨rfl, hst⟩
      have HST := Lib.hid hst
      clear hst hw
      go_wp2
      go_ret
      exact ⟨rfl, HST.out⟩
end
/-! CPlain -/
section
set_option linter.unusedSimpArgs false
set_option linter.unusedVariables false
open Go.RowKit Go.Maps Go.Shelf

/-! ### a disk stays a disk -/
structure Dsk.Good (S S' : Dsk) : Prop where
  len : S'.blocks.length = S.blocks.length
  sizes : (∀ s ∈ S.blocks, s.size = 256) → ∀ s ∈ S'.blocks, s.size = 256
theorem Dsk.Good.refl (S : Dsk) : Dsk.Good S S := ⟨rfl, id⟩
theorem Dsk.Good.trans {A B C : Dsk} (h : Dsk.Good A B) (k : Dsk.Good B C) : Dsk.Good A C := ⟨k.len.trans h.len, fun x => k.sizes (h.sizes x)⟩
theorem Dsk.write_good (S : Dsk) (i : Int) (s : ByteArray) : Dsk.Good S (S.write i s).2 := by
  unfold Dsk.write
  split
  · exact .refl S
  · split
    · exact .refl S
    · rename_i hs
      split
      · exact ⟨rfl, id⟩
      · refine ⟨by simp, fun h x hx => ?_⟩
        rcases List.mem_or_eq_of_mem_set hx with h' | rfl
        · exact h x h'
        · omega
theorem Dsk.writes_good : ∀ (l : Pgs) (S : Dsk), Dsk.Good S (S.writes l).2
  | [], S => .refl S
  | q :: l, S => by
    simp only [Dsk.writes]
    split
    · exact S.write_good _ _
    · exact (S.write_good _ _).trans (Dsk.writes_good l _)
theorem Dsk.commit_good (S : Dsk) (l : Pgs) : Dsk.Good S (S.commit l).2 := by
  unfold Dsk.commit
  split
  · exact .refl S
  · split
    · exact .refl S
    · exact Dsk.writes_good _ _

/-! ### how many pages there may be -/
theorem jDown_spec {n : Int} (hn : 1 ≤ n) : ∀ k, 2 * (jDown n k : Int) + 1 + jBlocks (jDown n k) ≤ n
  | 0 => by simp [jDown, jBlocks]; exact hn
  | k + 1 => by
    simp only [jDown]
    split
    · exact jDown_spec hn k
    · rename_i h; rw [show ((k + 1 : Nat) : Int) = (k : Int) + 1 by omega]; omega
theorem jPages_spec {n : Int} (h1 : 64 ≤ n) (h2 : n ≤ 2048) : 2 * jPages n + 1 + jBlocks (jPages n) ≤ n := by
  have : jPages n = (jDown n ((n - 1) / 2).toNat : Int) := by unfold jPages; rw [if_neg (by omega)]
  rw [this]
  exact jDown_spec (by omega) _
theorem jLast_le {n : Int} (h1 : 64 ≤ n) (h2 : n ≤ 2048) : jFirst n + jPages n ≤ n + 1 := by
  have := jPages_spec h1 h2
  have := jPages_bd n
  have := jBlocks_le this.1
  unfold jFirst
  split <;> omega
theorem jPages_pos {n : Int} (h1 : 64 ≤ n) (h2 : n ≤ 2048) : 1 ≤ jPages n := by
  have e : jPages n = (jDown n ((n - 1) / 2).toNat : Int) := by unfold jPages; rw [if_neg (by omega)]
  have key : ∀ k : Nat, 1 ≤ k → 1 ≤ jDown n k := by
    intro k hk
    induction k with
    | zero => omega
    | succ k ih =>
      simp only [jDown]
      split
      · rename_i h
        rcases Nat.eq_zero_or_pos k with rfl | hk
        · simp [jBlocks] at h; omega
        · exact ih hk
      · omega
  have := key ((n - 1) / 2).toNat (by omega)
  omega
theorem pages_few {n : Int} (h1 : 64 ≤ n) (h2 : n ≤ 2048) {l : Pgs} (hs : Srt l) (hp : ∀ q ∈ l, isPage n q.1 = true) : (l.length : Int) ≤ jPages n := by
  have hpos := jPages_pos h1 h2
  have hF := jFirst_bd n
  have hin : ∀ q ∈ l, q.1 ≠ 0 → jFirst n ≤ q.1 ∧ q.1 < jFirst n + (jPages n - 1) := by
    intro q hq h0
    have := hp q hq
    simp [isPage, h0] at this
    omega
  cases l with
  | nil => simp; omega
  | cons q r =>
    obtain ⟨ha, hb⟩ := List.pairwise_cons.1 hs
    have hnn : ∀ x ∈ q :: r, 0 ≤ x.1 := fun x hx => (isPage_bd (hp x hx)).1
    have hr : ∀ x ∈ r, jFirst n ≤ x.1 ∧ x.1 < jFirst n + (jPages n - 1) := by
      intro x hx
      refine hin x (List.mem_cons_of_mem _ hx) (fun e => ?_)
      have := ha x hx
      have := hnn q (by simp)
      omega
    have := srt_length r (jFirst n) (jFirst n + (jPages n - 1)) hb hr (by omega)
    simp
    omega
theorem jMayL_zero (n : Int) : ∀ (l : Pgs) (seen : List Int), (∀ q ∈ l, isPage n q.1 = true ∧ q.2.size = 256) → Srt l → (∀ q ∈ l, ∀ s ∈ seen, s < q.1) → jMayL n l seen = 0
  | [], _, _, _, _ => rfl
  | p :: r, seen, h, hs, hlt => by
    obtain ⟨ha, hb⟩ := List.pairwise_cons.1 hs
    obtain ⟨h1, h2⟩ := h p (by simp)
    unfold jMayL
    rw [if_neg (by simp [h1]), if_neg (by omega), if_neg (fun hm => by have := hlt p (by simp) p.1 hm; omega)]
    refine jMayL_zero n r (p.1 :: seen) (fun q hq => h q (by simp [hq])) hb (fun q hq s hs' => ?_)
    rcases List.mem_cons.1 hs' with rfl | hs'
    · exact ha q hq
    · exact hlt q (by simp [hq]) s hs'
theorem changed_may {S : Pgr} (h : S.Ok) : jMay S.disk.n S.changed = 0 := by
  have h1 := h.blocks
  have := pages_few (n := S.disk.n) (by unfold Dsk.n; omega) (by unfold Dsk.n; omega) h.srtc (fun q hq => (h.changed q hq).1)
  unfold jMay
  rw [if_neg (by omega)]
  exact jMayL_zero _ _ _ h.changed h.srtc (by simp)

/-! ### the pager's Commit -/
def Pgr.holds (S : Pgr) : Pgs → Pgr
  | [] => S
  | q :: r => (S.hold q.1 q.2).holds r
def Pgr.emptied (S : Pgr) (D : Dsk) : Pgr := { S with disk := D, changed := [] }
def Pgr.commit (S : Pgr) : Int × Pgr :=
  if (S.disk.commit S.changed).1 ≠ 0 then ((S.disk.commit S.changed).1, { S with disk := (S.disk.commit S.changed).2 })
  else (0, (S.emptied (S.disk.commit S.changed).2).holds S.changed)
theorem disk_ok {S : Pgr} (h : S.Ok) {D : Dsk} (hg : Dsk.Good S.disk D) : ({ S with disk := D } : Pgr).Ok := by
  have hn : D.n = S.disk.n := by unfold Dsk.n; rw [hg.len]
  exact { h with held := fun q hq => by show isPage D.n q.1 = true ∧ _; rw [hn]; exact h.held q hq, changed := fun q hq => by show isPage D.n q.1 = true ∧ _; rw [hn]; exact h.changed q hq, blocks := by show 64 ≤ D.blocks.length ∧ _; rw [hg.len]; exact h.blocks, sizes := hg.sizes h.sizes }
theorem hold_held {S : Pgr} {i : Int} {s : ByteArray} {k : Int} (hk : k ≠ i) (h : get k S.held = none) : get k (S.hold i s).held = none := by
  unfold Pgr.hold
  split
  · split
    · exact h
    · rename_i o ho
      simp only
      rw [get_ins_other hk]
      by_cases e : k = o
      · subst e; exact get_del_same
      · rw [get_del_other e]; exact h
  · simp only
    rw [get_ins_other hk]; exact h
theorem hold_rest {S : Pgr} (i : Int) (s : ByteArray) : (S.hold i s).changed = S.changed ∧ (S.hold i s).disk = S.disk ∧ (S.hold i s).room = S.room ∧ (S.hold i s).reads = S.reads ∧ (S.hold i s).clock ≤ S.clock + 1 := by
  unfold Pgr.hold
  split
  · split
    · simp; omega
    · simp
  · simp
theorem holds_snoc : ∀ (l : Pgs) (S : Pgr) (q : Int × ByteArray), S.holds (l ++ [q]) = (S.holds l).hold q.1 q.2
  | [], S, q => rfl
  | p :: l, S, q => holds_snoc l _ q
/-- each page of l may be held: while they are, and behind -/
theorem holds_ok : ∀ (l : Pgs) (S : Pgr), S.Ok → Srt l → S.changed = [] → (∀ q ∈ l, get q.1 S.held = none ∧ isPage S.disk.n q.1 = true ∧ q.2.size = 256) →
    (S.holds l).Ok ∧ (S.holds l).changed = [] ∧ (S.holds l).disk = S.disk ∧ (S.holds l).room = S.room ∧ (S.holds l).reads = S.reads ∧ (S.holds l).clock ≤ S.clock + l.length ∧ ∀ k, (∀ q ∈ l, q.1 ≠ k) → get k S.held = none → get k (S.holds l).held = none
  | [], S, h, _, hc, _ => ⟨h, hc, rfl, rfl, rfl, by simp [Pgr.holds], fun k _ hk => hk⟩
  | p :: l, S, h, hs, hc, hq => by
    obtain ⟨ha, hb⟩ := List.pairwise_cons.1 hs
    obtain ⟨h1, h2, h3⟩ := hq p (by simp)
    have hok := hold_ok h h1 (by rw [hc]; rfl) h2 h3
    obtain ⟨r1, r2, r3, r4, r5⟩ := hold_rest (S := S) p.1 p.2
    have ih := holds_ok l (S.hold p.1 p.2) hok hb (by rw [r1]; exact hc) (fun q hql => by
      have := ha q hql
      refine ⟨hold_held (by omega) (hq q (by simp [hql])).1, by rw [r2]; exact (hq q (by simp [hql])).2.1, (hq q (by simp [hql])).2.2⟩)
    obtain ⟨i1, i2, i3, i4, i5, i6, i7⟩ := ih
    refine ⟨i1, i2, i3.trans r2, i4.trans r3, i5.trans r4, by simp [Pgr.holds]; omega, fun k hk h0 => i7 k (fun q hql => hk q (by simp [hql])) (hold_held (fun e => hk p (by simp) e.symm) h0)⟩
theorem emptied_ok {S : Pgr} (h : S.Ok) {D : Dsk} (hg : Dsk.Good S.disk D) : (S.emptied D).Ok := undo_ok (disk_ok h hg)
theorem commit_ok {S : Pgr} (h : S.Ok) : S.commit.2.Ok := by
  have hg := S.disk.commit_good S.changed
  unfold Pgr.commit
  split
  · exact disk_ok h hg
  · have hn : (S.disk.commit S.changed).2.n = S.disk.n := by unfold Dsk.n; rw [hg.len]
    refine (holds_ok S.changed _ (emptied_ok h hg) h.srtc rfl fun q hq => ⟨?_, by show isPage (S.disk.commit S.changed).2.n q.1 = true; rw [hn]; exact (h.changed q hq).1, (h.changed q hq).2⟩).1
    show get q.1 S.held = none
    cases hgt : get q.1 S.held with
    | none => rfl
    | some x =>
      have := h.apart _ (get_mem hgt)
      simp only at this
      rw [mem_get h.srtc (show (q.1, q.2) ∈ S.changed from hq)] at this
      cases this
end
/-! PCommit -/
section
set_option linter.unusedSimpArgs false
set_option linter.unusedVariables false
open Go.RowKit Go.Maps Go.Shelf

theorem pageCells_get : ∀ (l : Pgs) (i : Nat) (h : i < l.length), (pageCells l)[i * 2]? = some (.int .i64 l[i].1) ∧ (pageCells l)[i * 2 + 1]? = some (.string l[i].2)
  | p :: r, 0, _ => by simp [pageCells]
  | p :: r, i + 1, h => by
    have ih := pageCells_get r i (by simpa using h)
    have e : pageCells (p :: r) = .int .i64 p.1 :: .string p.2 :: pageCells r := by simp [pageCells]
    rw [e, show (i + 1) * 2 = i * 2 + 1 + 1 by omega, show i * 2 + 1 + 1 + 1 = (i * 2 + 1) + 1 + 1 by omega]
    simpa using ih
theorem rowP_of {w : World} {base g n cap : Nat} {l : Pgs} (hn : n = l.length) (h : w.ownsRow base 218 2 (.slice (some ⟨g, 0, none⟩) n cap) n (pageCells l)) : ∃ og, w.heap[g]? = some og ∧ RowP og l := by
  obtain ⟨hlen, ⟨h0, _⟩ | ⟨g', cap', cur, h1, hb, hg, hnc, hcm, hcs, htake⟩⟩ := h
  · simp at h0
  · simp only [Value.slice.injEq, Option.some.injEq, Addr.mk.injEq, and_true, true_and] at h1
    obtain ⟨rfl, rfl⟩ := h1
    refine ⟨_, hg, cur, _, _, rfl, fun i hi => ?_⟩
    obtain ⟨h1, h2⟩ := pageCells_get l i hi
    rw [← htake, List.getElem?_take] at h1 h2
    rw [if_pos (by omega)] at h1 h2
    exact ⟨by simpa using h1, by simpa using h2⟩

/-- the disk has turned -/
theorem PagerAt.diskTurn {w w' : World} {L : PLoc} {S : Pgr} {lg' : Value} {D : Dsk} (h : PagerAt w L S) (k : DStp L.d L.bb L.lg lg' w w' D) : PagerAt w' { L with lg := lg' } { S with disk := D } := by
  have hn : ∀ (b : Nat) (o : Obj), w.heap[b]? = some o → (∀ cs T f, o = Obj.cells cs T f → T ≠ 112 ∧ T ≠ 9 ∧ T ≠ 218) → w'.heap[b]? = w.heap[b]? := by
    intro b o hb ho
    refine k.upd.block b (lt_of hb) (fun hd => ?_)
    obtain ⟨cs, T, hb', hT⟩ := h.disk.fp_cells hd
    rw [hb] at hb'
    simp at hb'
    obtain ⟨h1, h2, h3⟩ := ho _ _ _ hb'
    rcases hT with e | e | e
    · exact h1 e
    · exact h2 e
    · exact h3 e
  refine ⟨(hn _ _ h.p (fun cs T f e => by simp at e; obtain ⟨_, rfl, _⟩ := e; decide)).trans h.p, k.at_, ?_, ?_, fun q hq => (hn _ _ (h.page q hq) (fun cs T f e => by simp at e; obtain ⟨_, rfl, _⟩ := e; decide)).trans (h.page q hq), h.hc, h.inj⟩
  · obtain ⟨es, c, hb⟩ := h.held.obj
    exact h.held.congr (hn _ _ hb (fun cs T f e => by simp at e))
  · obtain ⟨es, c, hb⟩ := h.changed.obj
    exact h.changed.congr (hn _ _ hb (fun cs T f e => by simp at e))
theorem dfp_fp {L : PLoc} {S : Pgr} {b : Nat} (h : dfp L.d L.bb L.lg b) : L.fp S b := by
  rcases h with h | h | h
  · exact .inr (.inl h)
  · exact .inr (.inr (.inl h))
  · exact .inr (.inr (.inr (.inr (.inr (.inl h)))))

theorem pages_append (w : World) (base : Nat) (v : Value) (l : Pgs) (i : Int) (s : ByteArray) (hown : w.ownsRow base 218 2 v l.length (pageCells l)) (hlen : l.length < 1000000000000) (hb : base ≤ w.heap.size) :
    ∃ ao co w3, (Builtin.append_ #[110, 110] 110 #[v, .slice (some ⟨w.heap.size, 0, none⟩) 1 1]).run Tryz.prog (w.alloc (.cells #[.int .i64 i, .string s] 218)) = .ok (.slice ao (l.length + 1) co) w3 ∧
      w3.ownsRow base 218 2 (.slice ao (l.length + 1) co) (l.length + 1) (pageCells (l ++ [(i, s)])) ∧ (∀ w0 B, Below B w0 w → w0.heap.size ≤ base → B ≤ base → Below B w0 w3) := by
  obtain ⟨i0, hi, hz0, hz1, hz2⟩ := info_parts info_page
  obtain ⟨v3, w3, hr, hown3, hgr, _⟩ := run_append_own (P := Tryz.prog) (w.alloc (.cells #[.int .i64 i, .string s] 218)) base 110 110 218 i0 (.agg #[.int .i64 0, .string ⟨#[]⟩]) 2 24 Tryz.underlying110 hi hz0 hz1 hz2 rfl (by omega)
    v l.length (pageCells l) (hown.alloc _) ⟨w.heap.size, 0, none⟩ 1 1 [.int .i64 i, .string s] rfl (by
      intro k u hk
      have hadd : Addr.add ⟨w.heap.size, 0, none⟩ k = ⟨w.heap.size, k, none⟩ := by unfold Addr.add; split <;> simp_all
      rw [hadd, cell_new]
      simpa using hk) (by simp [Value.oneCell']) (by unfold maxLen; omega) (by omega) (by simp; omega)
  obtain ⟨ao, co, rfl⟩ := ownsRow_slice hown3
  refine ⟨ao, co, w3, hr, ?_, fun w0 B hB hw0 hBb => ?_⟩
  · rw [pageCells, List.flatMap_append]
    exact hown3
  · have hs := hB.size
    refine (hB.trans (((Below.refl _ w).alloc (Nat.le_refl _) _).mono ?_)).grown hgr (by simp; omega) (fun k hk => Nat.le_trans hBb (hown.lt k hk).1)
    omega
theorem Held.trans {w w1 w2 : World} {L L1 L2 : PLoc} {S S1 S2 : Pgr} (h : Held w w1 L S S1 L1) (k : Held w1 w2 L1 S1 S2 L2) : Held w w2 L S S2 L2 := by
  have h1 := h.upd.size
  have h2 := k.upd.size
  refine ⟨k.at_, k.p.trans h.p, k.d.trans h.d, fun b hb => ?_, h.upd.then k.upd (fun x hx hd => ?_)⟩
  · rcases k.fp b hb with h' | h'
    · rcases h.fp b h' with h'' | h''
      · exact .inl h''
      · exact .inr ⟨h''.1, by omega⟩
    · exact .inr ⟨by omega, h'.2⟩
  · rcases h.fp x hd with h' | h'
    · exact h'
    · omega
theorem Held.made {w w1 w2 : World} {L L1 : PLoc} {S S1 : Pgr} (h : Held w w1 L S S1 L1) (hB : Below w1.heap.size w1 w2) : Held w w2 L S S1 L1 :=
  ⟨below_pager hB h.at_, h.p, h.d, fun b hb => (h.fp b hb).imp id (fun x => ⟨x.1, by have := hB.size; omega⟩), h.upd.then (Upd.below hB (F := fun b => w1.heap.size ≤ b) (fun x hx hle => hle)) (fun x hx hle => by have := h.upd.size; omega)⟩
theorem Held.refl {w : World} {L : PLoc} {S : Pgr} (h : PagerAt w L S) : Held w w L S S L := ⟨h, rfl, rfl, fun b hb => .inl hb, Upd.refl _ _⟩
theorem Held.disk {w w1 : World} {L : PLoc} {S : Pgr} {lg' : Value} {D : Dsk} (h : PagerAt w L S) (k : DStp L.d L.bb L.lg lg' w w1 D) : Held w w1 L S { S with disk := D } { L with lg := lg' } := by
  have hat := h.diskTurn k
  refine ⟨hat, rfl, rfl, fun b hb => ?_, k.upd.mono (fun b _ hd => dfp_fp hd)⟩
  have hlt := hat.fp_lt hb
  rcases hb with h' | h' | h' | h' | h' | h' | h'
  · exact .inl (.inl h')
  · exact .inl (.inr (.inl h'))
  · exact .inl (.inr (.inr (.inl h')))
  · exact .inl (.inr (.inr (.inr (.inl h'))))
  · exact .inl (.inr (.inr (.inr (.inr (.inl h')))))
  · rcases k.log b h' with h2 | h2
    · exact .inl (.inr (.inr (.inr (.inr (.inr (.inl h2))))))
    · exact .inr ⟨h2, hlt⟩
  · exact .inl (.inr (.inr (.inr (.inr (.inr (.inr h'))))))
theorem Held.clear {w w1 : World} {L : PLoc} {S : Pgr} (h : PagerAt w L S) (hM : MapV w1 L.c []) (hT : Turn w w1 L.c) : Held w w1 L S { S with changed := [] } L :=
  ⟨h.turnChanged (l' := []) hM hT, rfl, rfl, fun b hb => .inl hb, (Upd.refl _ _).turn hT (fun _ => .inr (.inr (.inr (.inr (.inl rfl)))))⟩

set_option maxRecDepth 100000 in
set_option maxHeartbeats 4000000 in
theorem commit_at {w : World} {p d : Nat} {F : Nat → Prop} {S : Pgr} (h : PAt w p d F S) (hleft : S.disk.told = true → 0 ≤ S.disk.left ∧ S.disk.left < 9223372036854775808) (hlog : S.disk.log.length < 999999000000) (hc : S.clock < 4611686018427300000) :
    Calls Tryz.prog 113 #[.pointer (some ⟨p, 0, none⟩)] w fun e w' => e = .returned (.int .i64 S.commit.1) ∧ Stp F w w' p d S.commit.2 := by
  obtain ⟨L, rfl, rfl, hA, hF, hok⟩ := h
  have hD := dirty_at hA hok
  have hblk := hok.blocks
  have hfew : S.changed.length ≤ 1024 := by
    have h1 := pages_few (n := S.disk.n) (by unfold Dsk.n; omega) (by unfold Dsk.n; omega) hok.srtc (fun q hq => (hok.changed q hq).1)
    have h2 := jPages_bd S.disk.n
    omega
  have hwfc : ∀ q ∈ S.changed, (Lit.int .i64 q.1).wf = true := fun q hq => by
    have := isPage_bd (hok.changed q hq).1
    simp [Lit.wf, show IntKind.i64.min = -9223372036854775808 from rfl, show IntKind.i64.max = 9223372036854775807 from rfl]; omega
  have HA := Lib.hid hA
  have HOK := Lib.hid hok
  have HWF := Lib.hid hwfc
  obtain ⟨N, hN⟩ : ∃ N, N = S.changed.length := ⟨_, rfl⟩
  rw [← hN] at hfew
  have HN := Lib.hid hN
  clear hN hA hok hblk hwfc
  go_enter Tryz.func113, Tryz.ntmps113
  go_wp2_with fail
  refine hD.mono ?_
  rintro e w1 ⟨v, rfl, hrow, _, hB1⟩
  rw [← HN.out] at hrow
  obtain ⟨ad, cd, rfl⟩ := ownsRow_slice hrow
  have HROW := Lib.hid hrow
  have HB1 := Lib.hid hB1
  have hs1 := hB1.size
  have HA1 := Lib.hid (below_pager hB1 HA.out)
  clear hD hrow hB1
  go_wp2
  go_loopw [3, 14] (fun u v wr => ∃ (k : Nat) (ao : Option Addr) (co : Nat), u = .slice ao k co ∧ v = .int .i64 k ∧ k ≤ N ∧ Hid (wr.ownsRow w1.heap.size 218 2 (.slice ao k co) k (pageCells (S.changed.take k))) ∧ Below w1.heap.size w1 wr) (fun _ v _ => N - (intOf v).toNat)
  case atStart => exact ⟨0, none, 0, rfl, rfl, by omega, World.ownsRow_nil _ _ _ _, Below.refl _ w1⟩
  case round =>
    obtain ⟨k, ao, co, rfl, rfl, hk, HR, hB⟩ := hrel
    by_cases hlt : k < N
    · have hlt' : k < S.changed.length := by rw [← HN.out]; exact hlt
      have hAr := below_pager hB HA1.out
      have c3 := cell_of hAr.p 3
      simp at c3
      obtain ⟨gd, rfl⟩ : ∃ gd, ad = some ⟨gd, 0, none⟩ := by
        rcases HROW.out.2 with ⟨h, h0⟩ | ⟨gd, cap2, cur, h, _⟩
        · omega
        · simp only [Value.slice.injEq] at h; exact ⟨gd, h.1⟩
      have hck := HROW.out.cellAt k (by omega)
      rw [← hB.cell (p := ⟨gd, k, none⟩) ((HROW.out.lt gd rfl).2)] at hck
      rw [List.getElem?_map, List.getElem?_map, List.getElem?_eq_getElem hlt'] at hck
      simp only [Option.map_some, encZ] at hck
      have hwf := HWF.out _ (List.getElem_mem hlt')
      have hlook := hAr.changed.look (k := S.changed[k].1) Tryz.underlying160 (zero_str _) hwf
      rw [changedV_eq, mapV_get, mem_get HOK.out.srtc (show (S.changed[k].1, S.changed[k].2) ∈ S.changed from List.getElem_mem hlt')] at hlook
      simp only [Option.map_some, Option.getD_some] at hlook
      have hkl : (S.changed.take k).length = k := by simp; omega
      have hown := HR.out
      obtain ⟨ao2, co2, w3, hrun, hown3, hBl3⟩ := pages_append wr w1.heap.size (.slice ao k co) (S.changed.take k) S.changed[k].1 S.changed[k].2 (by rw [hkl]; exact hown) (by omega) hB.size
      rw [hkl] at hrun hown3
      rw [show S.changed.take k ++ [(S.changed[k].1, S.changed[k].2)] = S.changed.take (k + 1) from (List.take_succ_eq_append_getElem hlt').symm] at hown3
      have HOWN3 := Lib.hid hown3
      have HB3 := Lib.hid (hBl3 w1 w1.heap.size hB (Nat.le_refl _) (Nat.le_refl _))
      clear hown3 hBl3 hown hAr HR
      generalize S.changed[k].1 = y at *
      generalize S.changed[k].2 = x at *
      go_wp2_with (at_builtin; refine wpList_append_run hrun rfl rfl rfl rfl rfl ?_)
      go_roundw
      case rel => exact ⟨k + 1, ao2, co2, rfl, rfl, by omega, HOWN3, HB3.out⟩
      case measure => simp [intOf]; omega
    · obtain rfl : k = N := by omega
      have hown := HR.out
      rw [List.take_of_length_le (by have := HN.out; omega)] at hown
      have hBw : Below w.heap.size w wr := HB1.out.trans (hB.mono hs1)
      have hAr := below_pager hBw HA.out
      have hH0 : Held w wr L S S L := (Held.refl HA.out).made hBw
      obtain ⟨g, og, hga, hgo, hgr, hgd, hgf⟩ : ∃ g og, (S.changed ≠ [] → ao = some ⟨g, 0, none⟩) ∧ wr.heap[g]? = some og ∧ RowP og S.changed ∧ ¬ dfp L.d L.bb L.lg g ∧ (S.changed ≠ [] → ¬ L.fp S g) := by
        by_cases hz : S.changed = []
        · refine ⟨L.p, _, fun h => absurd hz h, hAr.p, ?_, fun hd => ?_, fun h => absurd hz h⟩
          · rw [hz]; exact ⟨_, _, _, rfl, fun i hi => by simp at hi⟩
          · obtain ⟨cs, T, hb', hT⟩ := hAr.disk.fp_cells hd
            rw [hAr.p] at hb'
            simp at hb'
            obtain ⟨_, rfl⟩ := hb'
            rcases hT with e | e | e <;> simp at e
        · have hpos : 1 ≤ S.changed.length := List.length_pos_iff.2 hz
          obtain ⟨g, rfl⟩ : ∃ g, ao = some ⟨g, 0, none⟩ := by
            rcases hown.2 with ⟨h, h0⟩ | ⟨gd, cap2, cur, h, _⟩
            · have := HN.out; omega
            · simp only [Value.slice.injEq] at h; exact ⟨gd, h.1⟩
          obtain ⟨og, ho, hr⟩ := rowP_of HN.out hown
          have hge := (hown.lt g rfl).1
          have hnf : ¬ L.fp S g := fun hf => by have := HA.out.fp_lt hf; omega
          exact ⟨g, og, fun _ => rfl, ho, hr, fun hd => hnf (dfp_fp hd), fun _ => hnf⟩
      have hJ := jcommit_any (cap := co) hAr.disk hleft S.changed hlog (by have := HN.out; omega) HWF.out hga hgo hgr hgd
      rw [← HN.out] at hJ
      have c0 := cell_of hAr.p 0
      simp at c0
      have HJ := Lib.hid hJ
      have HAR := Lib.hid hAr
      have HGR := Lib.hid hgr
      have HGF := Lib.hid hgf
      have HGA := Lib.hid hga
      have HH0 := Lib.hid hH0
      clear hJ hAr hown HR hgr hgd hBw hlt hH0 hgf hga
      go_wp2_with fail
      refine HJ.out.mono ?_
      rintro e w2 ⟨rfl, lg', hst⟩
      have hH2 := HH0.out.trans (Held.disk HAR.out hst)
      have hgood := S.disk.commit_good S.changed
      have hcm : S.commit = if (S.disk.commit S.changed).1 ≠ 0 then ((S.disk.commit S.changed).1, { S with disk := (S.disk.commit S.changed).2 }) else (0, (S.emptied (S.disk.commit S.changed).2).holds S.changed) := rfl
      have HCM := Lib.hid hcm
      have hgo2 : S.changed ≠ [] → w2.heap[g]? = some og ∧ ¬ ({ L with lg := lg' } : PLoc).fp { S with disk := (S.disk.commit S.changed).2 } g := fun hz => by
        refine ⟨(hst.upd.block g (lt_of hgo) (fun hd => HGF.out hz (dfp_fp hd))).trans hgo, fun hf => ?_⟩
        rcases (Held.disk HAR.out hst).fp g hf with h' | h'
        · exact HGF.out hz h'
        · have := lt_of hgo; omega
      have HGO2 := Lib.hid hgo2
      clear HJ HAR HH0 hst hcm hgo hgo2
      by_cases hz : (S.disk.commit S.changed).1 ≠ 0
      · have hcz : S.commit = ((S.disk.commit S.changed).1, { S with disk := (S.disk.commit S.changed).2 }) := by rw [HCM.out, if_pos hz]
        have hzb : ((S.disk.commit S.changed).1 != 0) = true := by simpa using hz
        have HFIN : Hid (Stp F w w2 L.p L.d { S with disk := (S.disk.commit S.changed).2 }) := Stp.of hF hH2 (disk_ok HOK.out hgood)
        clear hH2 hgood
        go_wp2
        go_ret
        exact ⟨by rw [hcz]; rfl, by rw [hcz]; exact HFIN.out⟩
      · have hz0 : (S.disk.commit S.changed).1 = 0 := by omega
        have hcz : S.commit = (0, (S.emptied (S.disk.commit S.changed).2).holds S.changed) := by rw [HCM.out, if_neg hz]
        obtain ⟨w3, hclr, hM3, hT3⟩ := hH2.at_.changed.clear Tryz.underlying160 0
        have hH3 := hH2.trans (Held.clear hH2.at_ hM3 hT3)
        have c3 := cell_of hH2.at_.p 3
        simp at c3
        have hemp : Held w w3 L S (S.emptied (S.disk.commit S.changed).2) { L with lg := lg' } := hH3
        have HGO3 : Hid (S.changed ≠ [] → w3.heap[g]? = some og ∧ ¬ ({ L with lg := lg' } : PLoc).fp (S.emptied (S.disk.commit S.changed).2) g) := fun hne => by
          obtain ⟨h1, h2⟩ := HGO2.out hne
          refine ⟨(hT3.block g (fun e => h2 (.inr (.inr (.inr (.inr (.inl e))))))).trans h1, h2⟩
        have HE := Lib.hid hemp
        have HCZ := Lib.hid hcz
        rw [hz0]
        have hn3 : (S.disk.commit S.changed).2.n = S.disk.n := by unfold Dsk.n; rw [hgood.len]
        have HOK3 := Lib.hid (emptied_ok HOK.out hgood)
        have HEACH : Hid (∀ q ∈ S.changed, get q.1 (S.emptied (S.disk.commit S.changed).2).held = none ∧ isPage (S.emptied (S.disk.commit S.changed).2).disk.n q.1 = true ∧ q.2.size = 256) := by
          intro q hq
          refine ⟨?_, by show isPage (S.disk.commit S.changed).2.n q.1 = true; rw [hn3]; exact (HOK.out.changed q hq).1, (HOK.out.changed q hq).2⟩
          show get q.1 S.held = none
          cases hgt : get q.1 S.held with
          | none => rfl
          | some x =>
            have := HOK.out.apart _ (get_mem hgt)
            simp only at this
            rw [mem_get HOK.out.srtc (show (q.1, q.2) ∈ S.changed from hq)] at this
            cases this
        have hck : (S.emptied (S.disk.commit S.changed).2).clock = S.clock := rfl
        have HCK := Lib.hid hck
        have HC3 : Hid ((S.emptied (S.disk.commit S.changed).2).changed = []) := rfl
        clear hcz hemp hH3 hH2 hM3 hT3 HGO2 hgood hz hz0 hn3 HCM hck
        generalize S.emptied (S.disk.commit S.changed).2 = S3 at *
        go_wp2
        go_loopw [45] (fun u wr' => ∃ (j : Nat) (L' : PLoc), u = .int .i64 j ∧ j ≤ k ∧ Hid (Held w wr' L S (S3.holds (S.changed.take j)) L') ∧ Hid (S.changed ≠ [] → wr'.heap[g]? = some og ∧ ¬ L'.fp (S3.holds (S.changed.take j)) g)) (fun u _ => k - (intOf u).toNat)
        case atStart => exact ⟨0, _, rfl, by omega, HE, HGO3⟩
        case round =>
          obtain ⟨j, L', rfl, hj, HH, HG⟩ := hrel
          by_cases hlt : j < k
          · have hlt' : j < S.changed.length := by rw [← HN.out]; exact hlt
            have hne : S.changed ≠ [] := by intro e; rw [e] at hlt'; simp at hlt'
            obtain ⟨hg1, hg2⟩ := HG.out hne
            obtain ⟨hb0, hb1⟩ := HGR.out.cell hg1 hlt'
            have hae := HGA.out hne
            subst hae
            have hsub : ∀ q ∈ S.changed.take j, q ∈ S.changed := fun q hq => List.mem_of_mem_take hq
            have hsrt : Srt (S.changed.take j) := List.Pairwise.sublist (List.take_sublist _ _) HOK.out.srtc
            obtain ⟨i1, i2, i3, i4, i5, i6, i7⟩ := holds_ok (S.changed.take j) S3 HOK3.out hsrt (by have := HOK3.out; exact HC3.out) (fun q hq => HEACH.out q (hsub q hq))
            obtain ⟨e1, e2, e3⟩ := HEACH.out _ (List.getElem_mem hlt')
            have hnone := i7 S.changed[j].1 (fun q hq e => by
              have hp := List.pairwise_append.1 (by rw [List.take_append_drop]; exact HOK.out.srtc : Srt (S.changed.take j ++ S.changed.drop j))
              have := hp.2.2 q hq S.changed[j] (by have hdr := List.drop_eq_getElem_cons hlt'; rw [hdr]; exact .head _)
              omega) e1
            have hlen : ((S.changed.take j).length : Int) ≤ 1024 := by simp; omega
            have hclk : (S3.holds (S.changed.take j)).clock < 4611686018427387904 := by have := HCK.out; omega
            have hold := fun (wx : World) (hx : PagerAt wx L' (S3.holds (S.changed.take j))) => hold_at hx i1 S.changed[j].1 S.changed[j].2 hnone (by rw [i3]; exact e2) hclk
            rw [show L'.p = L.p from HH.out.p] at hold
            have hsn := holds_snoc (S.changed.take j) S3 S.changed[j]
            rw [← List.take_succ_eq_append_getElem hlt'] at hsn
            have HSN := Lib.hid hsn
            have HHOLD := Lib.hid (hold _ (below_pager ((Below.refl _ wr).alloc (Nat.le_refl _) (boxP S.changed[j])) HH.out.at_))
            have HMADE := Lib.hid (HH.out.made ((Below.refl _ wr).alloc (Nat.le_refl _) (boxP S.changed[j])))
            have hgA : (wr.alloc (boxP S.changed[j])).heap[g]? = some og := (Below.heap_alloc wr _ g (lt_of hg1)).trans hg1
            unfold boxP at HHOLD HMADE hgA
            clear hsn hold hsrt hsub i1 i2 i3 i4 i5 i6 i7 e1 e2 e3 hnone hlen hclk
            generalize S.changed[j].1 = y at *
            generalize S.changed[j].2 = x at *
            go_wp2_with fail
            refine HHOLD.out.mono ?_
            rintro e w5 ⟨L5, v5, rfl, hH5, _, _⟩
            have HH5 : Hid (Held w w5 L S (S3.holds (S.changed.take (j + 1))) L5) := by show Held _ _ _ _ _ _; rw [HSN.out]; exact HMADE.out.trans hH5
            have HG5 : Hid (S.changed ≠ [] → w5.heap[g]? = some og ∧ ¬ L5.fp (S3.holds (S.changed.take (j + 1))) g) := fun _ => by
              refine ⟨(hH5.upd.block g (lt_of hgA) hg2).trans hgA, fun hf => ?_⟩
              rw [HSN.out] at hf
              rcases hH5.fp g hf with h' | h'
              · exact hg2 h'
              · have := lt_of hgA; omega
            clear hH5 HHOLD HMADE HSN
            go_wp2
            go_roundw
            case rel => exact ⟨j + 1, L5, rfl, by omega, HH5, HG5⟩
            case measure => simp [intOf]; omega
          · obtain rfl : j = k := by omega
            have HFIN : Hid (Stp F w wr L.p L.d (S3.holds S.changed)) := by
              have hh := HH.out
              rw [List.take_of_length_le (by have := HN.out; omega)] at hh
              refine Stp.of hF hh ?_
              exact (holds_ok S.changed S3 HOK3.out HOK.out.srtc HC3.out HEACH.out).1
            clear HH HG
            go_wp2
            go_ret
            exact ⟨by rw [HCZ.out]; rfl, by rw [HCZ.out]; exact HFIN.out⟩
end
/-! Clean -/
section
set_option linter.unusedSimpArgs false
set_option linter.unusedVariables false
open Go.RowKit Go.Maps Go.Shelf

def Dsk.blk (S : Dsk) (i : Int) : ByteArray := S.blocks.getD i.toNat ⟨#[]⟩
/-- no cut is told, and the power is on -/
structure Dsk.Up (S : Dsk) : Prop where
  told : S.told = false
  down : S.down = false
theorem Dsk.write_up {S : Dsk} (h : S.Up) {i : Int} {s : ByteArray} (h0 : 0 ≤ i) (h1 : i < S.n) (hs : s.size = 256) :
    (S.write i s).1 = 0 ∧ (S.write i s).2.Up ∧ (∀ k, 0 ≤ k → k ≠ i → (S.write i s).2.blk k = S.blk k) ∧ (S.write i s).2.blk i = s := by
  have hm : S.may i = 0 := by unfold Dsk.may; rw [if_neg (by simp [h.down]), if_neg (by omega)]
  have e : S.write i s = (0, { S with left := if S.told then S.left - 1 else S.left, blocks := S.blocks.set i.toNat s, log := S.log ++ [(i, s)] }) := by
    unfold Dsk.write
    rw [if_neg (by omega), if_neg (by omega), if_neg (by rw [h.told]; simp)]
  rw [e]
  unfold Dsk.n at h1
  refine ⟨rfl, ⟨h.told, h.down⟩, fun k hk hne => ?_, ?_⟩
  · unfold Dsk.blk
    simp only [List.getD_eq_getElem?_getD]
    rw [List.getElem?_set_ne (by omega)]
  · unfold Dsk.blk
    simp only [List.getD_eq_getElem?_getD]
    rw [List.getElem?_set_self (by omega)]
    rfl
theorem Dsk.writes_up : ∀ (l : Pgs) {S : Dsk}, S.Up → (∀ q ∈ l, 0 ≤ q.1 ∧ q.1 < S.n ∧ q.2.size = 256) →
    (S.writes l).1 = 0 ∧ (S.writes l).2.Up ∧ (∀ k, 0 ≤ k → (∀ q ∈ l, q.1 ≠ k) → (S.writes l).2.blk k = S.blk k) ∧
    (∀ l1 q l2, l = l1 ++ q :: l2 → (∀ x ∈ l2, x.1 ≠ q.1) → (S.writes l).2.blk q.1 = q.2)
  | [], S, h, _ => ⟨rfl, h, fun _ _ _ => rfl, fun l1 q l2 e => by simp at e⟩
  | p :: r, S, h, hq => by
    obtain ⟨a1, a2, a3⟩ := hq p (by simp)
    obtain ⟨w1, w2, w3, w4⟩ := S.write_up h a1 a2 a3
    have hn : (S.write p.1 p.2).2.n = S.n := by unfold Dsk.n; rw [(S.write_good p.1 p.2).len]
    obtain ⟨i1, i2, i3, i4⟩ := Dsk.writes_up r w2 (fun q hqr => by rw [hn]; exact hq q (by simp [hqr]))
    have e : S.writes (p :: r) = (S.write p.1 p.2).2.writes r := by simp only [Dsk.writes]; rw [if_neg (by omega)]
    rw [e]
    refine ⟨i1, i2, fun k hk hne => ?_, fun l1 q l2 hl hlt => ?_⟩
    · rw [i3 k hk (fun q hqr => hne q (by simp [hqr])), w3 k hk (fun e => hne p (by simp) e.symm)]
    · cases l1 with
      | nil =>
        simp only [List.nil_append, List.cons.injEq] at hl
        obtain ⟨rfl, rfl⟩ := hl
        rw [i3 p.1 a1 hlt, w4]
      | cons x l1 =>
        simp only [List.cons_append, List.cons.injEq] at hl
        exact i4 l1 q l2 hl.2 hlt

theorem allL_low {n : Int} (h1 : 64 ≤ n) (h2 : n ≤ 2048) {l : Pgs} (hl : (l.length : Int) ≤ jPages n) : ∀ q ∈ copiesL n l ++ (rowsL l ++ [(1, jTop l)]), 1 ≤ q.1 ∧ q.1 < jFirst n ∧ q.1 < n := by
  have hpos := jPages_pos h1 h2
  have hsp := jPages_spec h1 h2
  have hF : jFirst n = 2 + jBlocks (jPages n) + jPages n := by unfold jFirst; rw [if_neg (by omega)]
  have hb : 0 ≤ jBlocks (jPages n) := (jBlocks_le (by omega)).1
  have hrows : (((jList l).length : Nat) : Int) ≤ jBlocks (jPages n) := by
    rw [jList_length]; unfold jBlocks; omega
  intro q hq
  simp only [copiesL, rowsL, List.mem_append, List.mem_map, List.mem_range, List.mem_singleton, jCopies] at hq
  rcases hq with ⟨i, hi, rfl⟩ | ⟨i, hi, rfl⟩ | rfl
  · simp only; omega
  · simp only; omega
  · simp only; omega

/-- a Commit where no cut is told -/
theorem commit_up {S : Pgr} (hok : S.Ok) (hup : S.disk.Up) :
    (S.disk.commit S.changed).1 = 0 ∧ (S.disk.commit S.changed).2.Up ∧ ∀ k, isPage S.disk.n k = true → (S.disk.commit S.changed).2.blk k = (get k S.changed).getD (S.disk.blk k) := by
  have hbl := hok.blocks
  have h1 : 64 ≤ S.disk.n := by unfold Dsk.n; omega
  have h2 : S.disk.n ≤ 2048 := by unfold Dsk.n; omega
  have hm := changed_may hok
  by_cases hz : S.changed = []
  · have e : S.disk.commit S.changed = (0, S.disk) := by unfold Dsk.commit; rw [if_neg (by omega), if_pos hz]
    rw [e, hz]
    exact ⟨rfl, hup, fun k _ => rfl⟩
  · have e : S.disk.commit S.changed = S.disk.writes (allL S.disk.n S.changed) := by unfold Dsk.commit; rw [if_neg (by omega), if_neg hz]
    rw [e]
    have hpos := jPages_pos h1 h2
    have hlast := jLast_le h1 h2
    have hsp := jPages_spec h1 h2
    have hF : jFirst S.disk.n = 2 + jBlocks (jPages S.disk.n) + jPages S.disk.n := by unfold jFirst; rw [if_neg (by omega)]
    have hb : 0 ≤ jBlocks (jPages S.disk.n) := (jBlocks_le (by omega)).1
    have hlow := allL_low h1 h2 (jMay_ok hm).1
    have hsz := allL_sizes S.disk.n (fun q hq => (hok.changed q hq).2)
    have hsplit : allL S.disk.n S.changed = (copiesL S.disk.n S.changed ++ (rowsL S.changed ++ [(1, jTop S.changed)])) ++ (S.changed ++ [(1, fill ⟨#[]⟩)]) := by simp [allL, homeL]
    have hpg : ∀ q ∈ S.changed, 0 ≤ q.1 ∧ q.1 < S.disk.n := fun q hq => by
      have := (hok.changed q hq).1
      simp [isPage] at this
      omega
    obtain ⟨i1, i2, i3, i4⟩ := Dsk.writes_up (allL S.disk.n S.changed) hup (fun q hq => by
      refine ⟨?_, ?_, hsz q hq⟩
      · rw [hsplit] at hq
        rcases List.mem_append.1 hq with h | h
        · have := hlow q h; omega
        · rcases List.mem_append.1 h with h | h
          · exact (hpg q h).1
          · simp at h; subst h; simp
      · rw [hsplit] at hq
        rcases List.mem_append.1 hq with h | h
        · exact (hlow q h).2.2
        · rcases List.mem_append.1 h with h | h
          · exact (hpg q h).2
          · simp at h; subst h; simp; omega)
    refine ⟨i1, i2, fun k hk => ?_⟩
    have hk1 : k = 0 ∨ jFirst S.disk.n ≤ k := by simp [isPage] at hk; omega
    have hknn : 0 ≤ k := (isPage_bd hk).1
    cases hg : get k S.changed with
    | none =>
      simp only [Option.getD_none]
      refine i3 k hknn (fun q hq => ?_)
      rw [hsplit] at hq
      rcases List.mem_append.1 hq with h | h
      · have := hlow q h; omega
      · rcases List.mem_append.1 h with h | h
        · exact get_none hg q h
        · simp at h; subst h; simp; omega
    | some s =>
      simp only [Option.getD_some]
      obtain ⟨a, b, hab⟩ := List.append_of_mem (get_mem hg)
      refine i4 ((copiesL S.disk.n S.changed ++ (rowsL S.changed ++ [(1, jTop S.changed)])) ++ a) (k, s) (b ++ [(1, fill ⟨#[]⟩)]) ?_ (fun x hx => ?_)
      · rw [hsplit]
        have : S.changed ++ [((1 : Int), fill ⟨#[]⟩)] = a ++ (k, s) :: (b ++ [(1, fill ⟨#[]⟩)]) := by
          conv => lhs; rw [hab]
          simp
        rw [this]
        simp
      · rcases List.mem_append.1 hx with h | h
        · have hs := hok.srtc
          rw [hab] at hs
          have := (List.pairwise_append.1 hs).2.1
          have := (List.pairwise_cons.1 this).1 x h
          simp at this ⊢
          omega
        · simp at h; subst h; simp; omega

/-- what is held is as it lies on the disk -/
def Clean (S : Pgr) : Prop := ∀ q ∈ S.held, q.2.data = S.disk.blk q.1
theorem clean_hold {S : Pgr} (h : Clean S) {i : Int} {s : ByteArray} (hs : s = S.disk.blk i) : Clean (S.hold i s) := by
  unfold Pgr.hold
  split
  · split
    · exact h
    · intro q hq
      rcases mem_ins hq with rfl | hq
      · exact hs
      · exact h q (List.mem_filter.1 hq).1
  · intro q hq
    rcases mem_ins hq with rfl | hq
    · exact hs
    · exact h q hq
theorem clean_holds : ∀ (l : Pgs) {S : Pgr}, Clean S → (∀ q ∈ l, q.2 = S.disk.blk q.1) → Clean (S.holds l)
  | [], S, h, _ => h
  | p :: r, S, h, hq => clean_holds r (clean_hold h (hq p (by simp))) (fun q hqr => by rw [(hold_rest p.1 p.2).2.1]; exact hq q (by simp [hqr]))
theorem clean_store {S : Pgr} (h : Clean S) (i : Int) (s : ByteArray) : Clean (S.store i s).2 := by
  unfold Pgr.store
  split
  · exact h
  · split
    · exact h
    · split
      · split
        · exact h
        · exact fun q hq => h q (List.mem_filter.1 hq).1
      · exact fun q hq => h q (List.mem_filter.1 hq).1
theorem changed_apart {S : Pgr} (hok : S.Ok) {q : Int × ByteArray} (hq : q ∈ S.changed) : get q.1 S.held = none := by
  cases hgt : get q.1 S.held with
  | none => rfl
  | some x =>
    have := hok.apart _ (get_mem hgt)
    simp only at this
    rw [mem_get hok.srtc (show (q.1, q.2) ∈ S.changed from hq)] at this
    cases this
theorem commit_clean {S : Pgr} (hok : S.Ok) (hup : S.disk.Up) (h : Clean S) :
    S.commit.1 = 0 ∧ Clean S.commit.2 ∧ S.commit.2.changed = [] ∧ S.commit.2.disk.Up ∧ S.commit.2.disk = (S.disk.commit S.changed).2 ∧ S.commit.2.clock ≤ S.clock + 1024 ∧ S.commit.2.reads = S.reads ∧ S.commit.2.room = S.room := by
  obtain ⟨c1, c2, c3⟩ := commit_up hok hup
  have e : S.commit = (0, (S.emptied (S.disk.commit S.changed).2).holds S.changed) := by unfold Pgr.commit; rw [if_neg (by omega)]
  rw [e]
  have hgood := S.disk.commit_good S.changed
  have hn : (S.disk.commit S.changed).2.n = S.disk.n := by unfold Dsk.n; rw [hgood.len]
  have hemp : Clean (S.emptied (S.disk.commit S.changed).2) := by
    intro q hq
    show q.2.data = (S.disk.commit S.changed).2.blk q.1
    rw [c3 q.1 (hok.held q hq).1, hok.apart q hq]
    exact h q hq
  have hr := holds_ok S.changed (S.emptied (S.disk.commit S.changed).2) (emptied_ok hok hgood) hok.srtc rfl (fun q hq => ⟨changed_apart hok hq, by show isPage (S.disk.commit S.changed).2.n q.1 = true; rw [hn]; exact (hok.changed q hq).1, (hok.changed q hq).2⟩)
  obtain ⟨i1, i2, i3, i4, i5, i6, _⟩ := hr
  have hfew := pages_few (n := S.disk.n) (by have := hok.blocks; unfold Dsk.n; omega) (by have := hok.blocks; unfold Dsk.n; omega) hok.srtc (fun q hq => (hok.changed q hq).1)
  have hbd := jPages_bd S.disk.n
  have hck : (S.emptied (S.disk.commit S.changed).2).clock = S.clock := rfl
  refine ⟨rfl, clean_holds _ hemp (fun q hq => ?_), i2, by rw [i3]; exact c2, i3, by simp only; omega, i5, i4⟩
  show q.2 = (S.disk.commit S.changed).2.blk q.1
  rw [c3 q.1 (hok.changed q hq).1, mem_get hok.srtc (show (q.1, q.2) ∈ S.changed from hq)]
  rfl
end
/-! Com -/
section
set_option linter.unusedSimpArgs false
set_option linter.unusedVariables false
open Go.RowKit Go.Maps Go.Shelf

section
variable {w0 w : World} {p d : Nat} {F : Nat → Prop} {S : Pgr}
theorem commit_in (h : PIn w0 w p d F S) (hleft : S.disk.told = true → 0 ≤ S.disk.left ∧ S.disk.left < 9223372036854775808) (hlog : S.disk.log.length < 999999000000) (hc : S.clock < 4611686018427300000) :
    Calls Tryz.prog 113 #[.pointer (some ⟨p, 0, none⟩)] w fun e w' => e = .returned (.int .i64 S.commit.1) ∧ PIn w0 w' p d (ext F w w') S.commit.2 ∧ Upd F w w' :=
  (commit_at h.pat hleft hlog hc).mono fun _ _ ⟨he, hs⟩ => ⟨he, h.stp hs, hs.upd⟩
end
theorem store_rest (S : Pgr) (i : Int) (s : ByteArray) : (S.store i s).2.disk = S.disk ∧ (S.store i s).2.clock = S.clock ∧ (S.store i s).2.reads = S.reads ∧ (S.store i s).2.room = S.room := by
  unfold Pgr.store
  split
  · simp
  · split
    · simp
    · split
      · split <;> simp
      · simp
theorem commit_none {D : Dsk} (h1 : 64 ≤ D.n) (h2 : D.n ≤ 2048) : D.commit [] = (0, D) := by
  have hpos := jPages_pos h1 h2
  have : jMay D.n [] = 0 := by unfold jMay; rw [if_neg (by simp; omega)]; rfl
  unfold Dsk.commit
  rw [if_neg (by omega), if_pos rfl]
theorem commit_log (D : Dsk) (l : Pgs) : (D.commit l).2.log.length ≤ D.log.length + 3 * l.length + 3 := by
  unfold Dsk.commit
  split
  · simp; omega
  · split
    · simp; omega
    · have h1 := Dsk.writes_log (allL D.n l) D
      have h2 := allL_length D.n l
      omega
end
/-! View -/
section
set_option linter.unusedSimpArgs false
set_option linter.unusedVariables false
open Go.RowKit Go.Maps Go.Shelf

theorem hold_pins {S : Pgr} {N : Int} (h : ∀ q ∈ S.held, q.2.pins ≤ N) (h0 : 0 ≤ N) (i : Int) (s : ByteArray) : ∀ q ∈ (S.hold i s).held, q.2.pins ≤ N := by
  unfold Pgr.hold
  split
  · split
    · exact h
    · intro q hq
      rcases mem_ins hq with rfl | hq
      · exact h0
      · exact h q (List.mem_filter.1 hq).1
  · intro q hq
    rcases mem_ins hq with rfl | hq
    · exact h0
    · exact h q hq
theorem holds_pins : ∀ (l : Pgs) {S : Pgr} {N : Int}, (∀ q ∈ S.held, q.2.pins ≤ N) → 0 ≤ N → ∀ q ∈ (S.holds l).held, q.2.pins ≤ N
  | [], S, N, h, _ => h
  | p :: r, S, N, h, h0 => holds_pins r (hold_pins h h0 p.1 p.2) h0

/-- a pager of a disk of n blocks that is up; what is held lies on the disk; pins within P, counts within N -/
structure Sees (S : Pgr) (n room P N : Int) : Prop where
  clean : Clean S
  up : S.disk.Up
  n : S.disk.n = n
  room : S.room = room
  clock : S.clock ≤ N
  reads : S.reads ≤ N
  pins : ∀ q ∈ S.held, q.2.pins ≤ P
  log : (S.disk.log.length : Int) ≤ N

section
variable {S : Pgr} {n r P N : Int} {i : Int}
theorem Sees.pinned {Q : Int} (h : Sees S n r P N) (hle : P ≤ Q) : Sees S n r Q N :=
  ⟨h.clean, h.up, h.n, h.room, h.clock, h.reads, fun q hq => Int.le_trans (h.pins q hq) hle, h.log⟩
theorem Sees.mono {M : Int} (h : Sees S n r P N) (hle : N ≤ M) : Sees S n r P M :=
  ⟨h.clean, h.up, h.n, h.room, Int.le_trans h.clock hle, Int.le_trans h.reads hle, h.pins, Int.le_trans h.log hle⟩
theorem Sees.use (h : Sees S n r P N) {y : Pg} (hd : y.data = S.disk.blk i) (hp : y.pins ≤ P) : Sees (S.use i y) n r P (N + 1) := by
  have h1 := h.clock
  have h2 := h.reads
  have h3 := h.log
  refine ⟨fun q hq => ?_, h.up, h.n, h.room, by simp [Pgr.use]; omega, by simp [Pgr.use]; omega, fun q hq => ?_, by simp [Pgr.use]; omega⟩
  · simp only [Pgr.use] at hq ⊢
    rcases mem_ins hq with rfl | hq
    · exact hd
    · exact h.clean q hq
  · simp only [Pgr.use] at hq ⊢
    rcases mem_ins hq with rfl | hq
    · exact hp
    · exact h.pins q hq
theorem Sees.read (h : Sees S n r P N) : Sees (S.read i).2 n r P (N + 1) := by
  obtain ⟨r1, r2, r3, r4, r5, r6⟩ := read_held S i
  have h1 := h.clock
  have h2 := h.reads
  have h3 := h.log
  exact ⟨fun q hq => by rw [r1] at hq; rw [r4]; exact h.clean q hq, by rw [r4]; exact h.up, by rw [r4]; exact h.n, by rw [r5]; exact h.room, by omega, by omega, fun q hq => by rw [r1] at hq; exact h.pins q hq, by rw [r4]; omega⟩
theorem Sees.hold (h : Sees S n r P N) (h0 : 0 ≤ P) {s : ByteArray} (hs : s = S.disk.blk i) : Sees (S.hold i s) n r P (N + 1) := by
  obtain ⟨k1, k2, k3, k4, k5⟩ := hold_rest (S := S) i s
  have h1 := h.clock
  have h2 := h.reads
  have h3 := h.log
  exact ⟨clean_hold h.clean hs, by rw [k2]; exact h.up, by rw [k2]; exact h.n, by rw [k3]; exact h.room, by omega, by omega, fun q hq => hold_pins h.pins h0 i s q hq, by rw [k2]; omega⟩
theorem Sees.rd (h : Sees S n r P N) (h0 : 0 ≤ i) (h1 : i < n) : S.disk.read i = (S.disk.blk i, 0) := by
  unfold Dsk.read
  have : S.disk.may i = 0 := by unfold Dsk.may; rw [if_neg (by simp [h.up.down]), if_neg (by rw [h.n]; omega)]
  rw [if_pos this]
  rfl
theorem Sees.may (h : Sees S n r P N) (hp : isPage n i = true) : S.may i = 0 := by unfold Pgr.may; rw [h.n, if_pos hp]
theorem Sees.load (h : Sees S n r P N) (hP : 0 ≤ P) (hp : isPage n i = true) (h0 : 0 ≤ i) (h1 : i < n) :
    (S.load i).1 = ((get i S.changed).getD (S.disk.blk i), 0) ∧ (S.load i).2.changed = S.changed ∧ (S.load i).2.disk = S.disk ∧ Sees (S.load i).2 n r P (N + 2) := by
  have hm := h.may hp
  have hrd := h.rd h0 h1
  unfold Pgr.load
  rw [if_neg (by simpa using hm)]
  cases hc : get i S.changed with
  | some s => exact ⟨rfl, rfl, rfl, h.mono (by omega)⟩
  | none =>
    simp only
    cases hy : get i S.held with
    | some y =>
      have hd := h.clean _ (get_mem hy)
      simp only at hd
      have hpn := h.pins _ (get_mem hy)
      simp only at hpn
      exact ⟨by rw [← hd]; rfl, rfl, rfl, (h.use hd hpn).mono (by omega)⟩
    | none =>
      simp only
      rw [hrd]
      obtain ⟨r1, r2, r3, r4, r5, r6⟩ := read_held S i
      obtain ⟨k1, k2, k3, k4, k5⟩ := hold_rest (S := (S.read i).2) i (S.disk.blk i)
      exact ⟨rfl, by simp only [ne_eq, not_true, if_false]; rw [k1, r2], by simp only [ne_eq, not_true, if_false]; rw [k2, r4], by simp only [ne_eq, not_true, if_false]; exact ((h.read (i := i)).hold (by omega) (by rw [r4])).mono (by omega)⟩
theorem Sees.store (h : Sees S n r P N) (s : ByteArray) : Sees (S.store i s).2 n r P N := by
  obtain ⟨h1, h2, h3, h4⟩ := store_rest S i s
  refine ⟨clean_store h.clean i s, by rw [h1]; exact h.up, by rw [h1]; exact h.n, by rw [h4]; exact h.room, by rw [h2]; exact h.clock, by rw [h3]; exact h.reads, ?_, by rw [h1]; exact h.log⟩
  unfold Pgr.store
  split
  · exact h.pins
  · split
    · exact h.pins
    · split
      · split
        · exact h.pins
        · exact fun q hq => h.pins q (List.mem_filter.1 hq).1
      · exact fun q hq => h.pins q (List.mem_filter.1 hq).1
theorem store_ways (S : Pgr) (i : Int) (s : ByteArray) : ((S.store i s).1 = 0 ∧ (S.store i s).2.changed = ins i s S.changed) ∨ ((S.store i s).1 ≠ 0 ∧ (S.store i s).2.changed = S.changed) := by
  unfold Pgr.store
  split
  · rename_i hm; exact .inr ⟨hm, rfl⟩
  · split
    · exact .inr ⟨by simp, rfl⟩
    · split
      · split
        · exact .inr ⟨by simp, rfl⟩
        · exact .inl ⟨rfl, rfl⟩
      · exact .inl ⟨rfl, rfl⟩
theorem Sees.unpin (h : Sees S n r P N) : Sees (S.unpin i).2 n r P N ∧ (S.unpin i).2.changed = S.changed := by
  unfold Pgr.unpin
  cases hy : get i S.held with
  | none => exact ⟨h, rfl⟩
  | some y =>
    simp only
    split
    · exact ⟨h, rfl⟩
    · have hd := h.clean _ (get_mem hy)
      have hp := h.pins _ (get_mem hy)
      simp only at hd hp
      refine ⟨⟨fun q hq => ?_, h.up, h.n, h.room, h.clock, h.reads, fun q hq => ?_, h.log⟩, rfl⟩
      · rcases mem_ins hq with rfl | hq
        · exact hd
        · exact h.clean q hq
      · rcases mem_ins hq with rfl | hq
        · simp only; omega
        · exact h.pins q hq
theorem Sees.pin (h : Sees S n r P N) (hP : 0 ≤ P) (h0 : 0 ≤ i) (h1 : i < n) : Sees (S.pin i).2 n r (P + 1) (N + 3) ∧ (S.pin i).2.changed = S.changed := by
  have hrd := h.rd h0 h1
  have hq := h.pinned (Q := P + 1) (by omega)
  unfold Pgr.pin
  split
  · exact ⟨hq.mono (by omega), rfl⟩
  · cases hc : get i S.changed with
    | some s => exact ⟨hq.mono (by omega), rfl⟩
    | none =>
      simp only
      cases hy : get i S.held with
      | some y =>
        have hd := h.clean _ (get_mem hy)
        have hp := h.pins _ (get_mem hy)
        simp only at hd hp
        exact ⟨(hq.use (y := { y with pins := y.pins + 1 }) hd (by simp only; omega)).mono (by omega), rfl⟩
      | none =>
        simp only
        split
        · exact ⟨hq.mono (by omega), rfl⟩
        · rw [hrd]
          simp only [ne_eq, not_true, if_false]
          obtain ⟨r1, r2, r3, r4, r5, r6⟩ := read_held S i
          obtain ⟨k1, k2, k3, k4, k5⟩ := hold_rest (S := (S.read i).2) i (S.disk.blk i)
          have hh := ((hq.read (i := i)).hold (i := i) (s := S.disk.blk i) (by omega) (by rw [r4]))
          exact ⟨(hh.use (y := ⟨S.disk.blk i, 1, 0⟩) (by rw [k2, r4]) (by simp only; omega)).mono (by omega), by show ((S.read i).2.hold i (S.disk.blk i)).changed = S.changed; rw [k1, r2]⟩
theorem Sees.commit (hok : S.Ok) (h : Sees S n r P N) (hP : 0 ≤ P) : S.commit.1 = 0 ∧ S.commit.2.changed = [] ∧ Sees S.commit.2 n r P (N + 4000) := by
  obtain ⟨c1, c2, c3, c4, c5, c6, c7, c8⟩ := commit_clean hok h.up h.clean
  have h1 := h.clock
  have h2 := h.reads
  have h3 := h.log
  have hlg := commit_log S.disk S.changed
  have hfew : S.changed.length ≤ 1024 := by
    have hbk := hok.blocks
    have h1 := pages_few (n := S.disk.n) (by unfold Dsk.n; omega) (by unfold Dsk.n; omega) hok.srtc (fun q hq => (hok.changed q hq).1)
    have h2 := jPages_bd S.disk.n
    omega
  have hpins : ∀ q ∈ S.commit.2.held, q.2.pins ≤ P := by
    unfold Pgr.commit
    split
    · exact h.pins
    · exact holds_pins S.changed h.pins hP
  refine ⟨c1, c3, c2, c4, ?_, by rw [c8]; exact h.room, by omega, by omega, hpins, by rw [c5]; omega⟩
  rw [c5]
  unfold Dsk.n
  rw [(S.disk.commit_good S.changed).len]
  exact h.n
end

end
end Go.Proofs.YtmgcaohpbaiiaaaGreatDoor
