/- Commit as plain data: the disk stays a disk, the pager a pager; what is changed may be written. -/
import Derived.Test.YtdoankamaobkoaaGreatDoorJCommit
import Derived.Test.YtdoankamaobkoaaGreatDoorClear
set_option linter.unusedSimpArgs false
set_option linter.unusedVariables false
namespace Go.Proofs.YtdoankamaobkoaaGreatDoor
open Go.RowKit Go.Maps Go.Shelf

/-! ### a disk stays a disk -/
structure Dsk.Good (S S' : Dsk) : Prop where
  len : S'.blocks.length = S.blocks.length
  sizes : (∀ s ∈ S.blocks, s.size = 256) → ∀ s ∈ S'.blocks, s.size = 256
theorem Dsk.Good.refl (S : Dsk) : Dsk.Good S S := ⟨rfl, id⟩
theorem Dsk.Good.trans {A B C : Dsk} (h : Dsk.Good A B) (k : Dsk.Good B C) : Dsk.Good A C := ⟨k.len.trans h.len, fun x => k.sizes (h.sizes x)⟩
theorem Dsk.write_good (S : Dsk) (i : Int) (s : ByteArray) : Dsk.Good S (S.write i s).2 := by
  unfold Dsk.write
  split
  · exact .refl S
  · split
    · exact .refl S
    · rename_i hs
      split
      · exact ⟨rfl, id⟩
      · refine ⟨by simp, fun h x hx => ?_⟩
        rcases List.mem_or_eq_of_mem_set hx with h' | rfl
        · exact h x h'
        · omega
theorem Dsk.writes_good : ∀ (l : Pgs) (S : Dsk), Dsk.Good S (S.writes l).2
  | [], S => .refl S
  | q :: l, S => by
    simp only [Dsk.writes]
    split
    · exact S.write_good _ _
    · exact (S.write_good _ _).trans (Dsk.writes_good l _)
theorem Dsk.commit_good (S : Dsk) (l : Pgs) : Dsk.Good S (S.commit l).2 := by
  unfold Dsk.commit
  split
  · exact .refl S
  · split
    · exact .refl S
    · exact Dsk.writes_good _ _

/-! ### how many pages there may be -/
theorem jDown_spec {n : Int} (hn : 1 ≤ n) : ∀ k, 2 * (jDown n k : Int) + 1 + jBlocks (jDown n k) ≤ n
  | 0 => by simp [jDown, jBlocks]; exact hn
  | k + 1 => by
    simp only [jDown]
    split
    · exact jDown_spec hn k
    · rename_i h; rw [show ((k + 1 : Nat) : Int) = (k : Int) + 1 by omega]; omega
theorem jPages_spec {n : Int} (h1 : 64 ≤ n) (h2 : n ≤ 2048) : 2 * jPages n + 1 + jBlocks (jPages n) ≤ n := by
  have : jPages n = (jDown n ((n - 1) / 2).toNat : Int) := by unfold jPages; rw [if_neg (by omega)]
  rw [this]
  exact jDown_spec (by omega) _
theorem jLast_le {n : Int} (h1 : 64 ≤ n) (h2 : n ≤ 2048) : jFirst n + jPages n ≤ n + 1 := by
  have := jPages_spec h1 h2
  have := jPages_bd n
  have := jBlocks_le this.1
  unfold jFirst
  split <;> omega
theorem jPages_pos {n : Int} (h1 : 64 ≤ n) (h2 : n ≤ 2048) : 1 ≤ jPages n := by
  have e : jPages n = (jDown n ((n - 1) / 2).toNat : Int) := by unfold jPages; rw [if_neg (by omega)]
  have key : ∀ k : Nat, 1 ≤ k → 1 ≤ jDown n k := by
    intro k hk
    induction k with
    | zero => omega
    | succ k ih =>
      simp only [jDown]
      split
      · rename_i h
        rcases Nat.eq_zero_or_pos k with rfl | hk
        · simp [jBlocks] at h; omega
        · exact ih hk
      · omega
  have := key ((n - 1) / 2).toNat (by omega)
  omega
theorem pages_few {n : Int} (h1 : 64 ≤ n) (h2 : n ≤ 2048) {l : Pgs} (hs : Srt l) (hp : ∀ q ∈ l, isPage n q.1 = true) : (l.length : Int) ≤ jPages n := by
  have hpos := jPages_pos h1 h2
  have hF := jFirst_bd n
  have hin : ∀ q ∈ l, q.1 ≠ 0 → jFirst n ≤ q.1 ∧ q.1 < jFirst n + (jPages n - 1) := by
    intro q hq h0
    have := hp q hq
    simp [isPage, h0] at this
    omega
  cases l with
  | nil => simp; omega
  | cons q r =>
    obtain ⟨ha, hb⟩ := List.pairwise_cons.1 hs
    have hnn : ∀ x ∈ q :: r, 0 ≤ x.1 := fun x hx => (isPage_bd (hp x hx)).1
    have hr : ∀ x ∈ r, jFirst n ≤ x.1 ∧ x.1 < jFirst n + (jPages n - 1) := by
      intro x hx
      refine hin x (List.mem_cons_of_mem _ hx) (fun e => ?_)
      have := ha x hx
      have := hnn q (by simp)
      omega
    have := srt_length r (jFirst n) (jFirst n + (jPages n - 1)) hb hr (by omega)
    simp
    omega
theorem jMayL_zero (n : Int) : ∀ (l : Pgs) (seen : List Int), (∀ q ∈ l, isPage n q.1 = true ∧ q.2.size = 256) → Srt l → (∀ q ∈ l, ∀ s ∈ seen, s < q.1) → jMayL n l seen = 0
  | [], _, _, _, _ => rfl
  | p :: r, seen, h, hs, hlt => by
    obtain ⟨ha, hb⟩ := List.pairwise_cons.1 hs
    obtain ⟨h1, h2⟩ := h p (by simp)
    unfold jMayL
    rw [if_neg (by simp [h1]), if_neg (by omega), if_neg (fun hm => by have := hlt p (by simp) p.1 hm; omega)]
    refine jMayL_zero n r (p.1 :: seen) (fun q hq => h q (by simp [hq])) hb (fun q hq s hs' => ?_)
    rcases List.mem_cons.1 hs' with rfl | hs'
    · exact ha q hq
    · exact hlt q (by simp [hq]) s hs'
theorem changed_may {S : Pgr} (h : S.Ok) : jMay S.disk.n S.changed = 0 := by
  have h1 := h.blocks
  have := pages_few (n := S.disk.n) (by unfold Dsk.n; omega) (by unfold Dsk.n; omega) h.srtc (fun q hq => (h.changed q hq).1)
  unfold jMay
  rw [if_neg (by omega)]
  exact jMayL_zero _ _ _ h.changed h.srtc (by simp)

/-! ### the pager's Commit -/
def Pgr.holds (S : Pgr) : Pgs → Pgr
  | [] => S
  | q :: r => (S.hold q.1 q.2).holds r
def Pgr.emptied (S : Pgr) (D : Dsk) : Pgr := { S with disk := D, changed := [] }
def Pgr.commit (S : Pgr) : Int × Pgr :=
  if (S.disk.commit S.changed).1 ≠ 0 then ((S.disk.commit S.changed).1, { S with disk := (S.disk.commit S.changed).2 })
  else (0, (S.emptied (S.disk.commit S.changed).2).holds S.changed)
theorem disk_ok {S : Pgr} (h : S.Ok) {D : Dsk} (hg : Dsk.Good S.disk D) : ({ S with disk := D } : Pgr).Ok := by
  have hn : D.n = S.disk.n := by unfold Dsk.n; rw [hg.len]
  exact { h with held := fun q hq => by show isPage D.n q.1 = true ∧ _; rw [hn]; exact h.held q hq, changed := fun q hq => by show isPage D.n q.1 = true ∧ _; rw [hn]; exact h.changed q hq, blocks := by show 64 ≤ D.blocks.length ∧ _; rw [hg.len]; exact h.blocks, sizes := hg.sizes h.sizes }
theorem hold_held {S : Pgr} {i : Int} {s : ByteArray} {k : Int} (hk : k ≠ i) (h : get k S.held = none) : get k (S.hold i s).held = none := by
  unfold Pgr.hold
  split
  · split
    · exact h
    · rename_i o ho
      simp only
      rw [get_ins_other hk]
      by_cases e : k = o
      · subst e; exact get_del_same
      · rw [get_del_other e]; exact h
  · simp only
    rw [get_ins_other hk]; exact h
theorem hold_rest {S : Pgr} (i : Int) (s : ByteArray) : (S.hold i s).changed = S.changed ∧ (S.hold i s).disk = S.disk ∧ (S.hold i s).room = S.room ∧ (S.hold i s).reads = S.reads ∧ (S.hold i s).clock ≤ S.clock + 1 := by
  unfold Pgr.hold
  split
  · split
    · simp; omega
    · simp
  · simp
theorem holds_snoc : ∀ (l : Pgs) (S : Pgr) (q : Int × ByteArray), S.holds (l ++ [q]) = (S.holds l).hold q.1 q.2
  | [], S, q => rfl
  | p :: l, S, q => holds_snoc l _ q
/-- each page of l may be held: while they are, and behind -/
theorem holds_ok : ∀ (l : Pgs) (S : Pgr), S.Ok → Srt l → S.changed = [] → (∀ q ∈ l, get q.1 S.held = none ∧ isPage S.disk.n q.1 = true ∧ q.2.size = 256) →
    (S.holds l).Ok ∧ (S.holds l).changed = [] ∧ (S.holds l).disk = S.disk ∧ (S.holds l).room = S.room ∧ (S.holds l).reads = S.reads ∧ (S.holds l).clock ≤ S.clock + l.length ∧ ∀ k, (∀ q ∈ l, q.1 ≠ k) → get k S.held = none → get k (S.holds l).held = none
  | [], S, h, _, hc, _ => ⟨h, hc, rfl, rfl, rfl, by simp [Pgr.holds], fun k _ hk => hk⟩
  | p :: l, S, h, hs, hc, hq => by
    obtain ⟨ha, hb⟩ := List.pairwise_cons.1 hs
    obtain ⟨h1, h2, h3⟩ := hq p (by simp)
    have hok := hold_ok h h1 (by rw [hc]; rfl) h2 h3
    obtain ⟨r1, r2, r3, r4, r5⟩ := hold_rest (S := S) p.1 p.2
    have ih := holds_ok l (S.hold p.1 p.2) hok hb (by rw [r1]; exact hc) (fun q hql => by
      have := ha q hql
      refine ⟨hold_held (by omega) (hq q (by simp [hql])).1, by rw [r2]; exact (hq q (by simp [hql])).2.1, (hq q (by simp [hql])).2.2⟩)
    obtain ⟨i1, i2, i3, i4, i5, i6, i7⟩ := ih
    refine ⟨i1, i2, i3.trans r2, i4.trans r3, i5.trans r4, by simp [Pgr.holds]; omega, fun k hk h0 => i7 k (fun q hql => hk q (by simp [hql])) (hold_held (fun e => hk p (by simp) e.symm) h0)⟩
theorem emptied_ok {S : Pgr} (h : S.Ok) {D : Dsk} (hg : Dsk.Good S.disk D) : (S.emptied D).Ok := undo_ok (disk_ok h hg)
theorem commit_ok {S : Pgr} (h : S.Ok) : S.commit.2.Ok := by
  have hg := S.disk.commit_good S.changed
  unfold Pgr.commit
  split
  · exact disk_ok h hg
  · have hn : (S.disk.commit S.changed).2.n = S.disk.n := by unfold Dsk.n; rw [hg.len]
    refine (holds_ok S.changed _ (emptied_ok h hg) h.srtc rfl fun q hq => ⟨?_, by show isPage (S.disk.commit S.changed).2.n q.1 = true; rw [hn]; exact (h.changed q hq).1, (h.changed q hq).2⟩).1
    show get q.1 S.held = none
    cases hgt : get q.1 S.held with
    | none => rfl
    | some x =>
      have := h.apart _ (get_mem hgt)
      simp only at this
      rw [mem_get h.srtc (show (q.1, q.2) ∈ S.changed from hq)] at this
      cases this
end Go.Proofs.YtdoankamaobkoaaGreatDoor
