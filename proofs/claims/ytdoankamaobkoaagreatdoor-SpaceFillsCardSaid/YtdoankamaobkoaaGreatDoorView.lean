/- What a page of the plain pager shows: what was stored last, or else what lies on the disk. -/
import Derived.Test.YtdoankamaobkoaaGreatDoorCom
set_option linter.unusedSimpArgs false
set_option linter.unusedVariables false
namespace Go.Proofs.YtdoankamaobkoaaGreatDoor
open Go.RowKit Go.Maps Go.Shelf

theorem hold_pins {S : Pgr} {N : Int} (h : ∀ q ∈ S.held, q.2.pins ≤ N) (h0 : 0 ≤ N) (i : Int) (s : ByteArray) : ∀ q ∈ (S.hold i s).held, q.2.pins ≤ N := by
  unfold Pgr.hold
  split
  · split
    · exact h
    · intro q hq
      rcases mem_ins hq with rfl | hq
      · exact h0
      · exact h q (List.mem_filter.1 hq).1
  · intro q hq
    rcases mem_ins hq with rfl | hq
    · exact h0
    · exact h q hq
theorem holds_pins : ∀ (l : Pgs) {S : Pgr} {N : Int}, (∀ q ∈ S.held, q.2.pins ≤ N) → 0 ≤ N → ∀ q ∈ (S.holds l).held, q.2.pins ≤ N
  | [], S, N, h, _ => h
  | p :: r, S, N, h, h0 => holds_pins r (hold_pins h h0 p.1 p.2) h0

/-- a pager of a disk of n blocks that is up; what is held lies on the disk; pins within P, counts within N -/
structure Sees (S : Pgr) (n room P N : Int) : Prop where
  clean : Clean S
  up : S.disk.Up
  n : S.disk.n = n
  room : S.room = room
  clock : S.clock ≤ N
  reads : S.reads ≤ N
  pins : ∀ q ∈ S.held, q.2.pins ≤ P
  log : (S.disk.log.length : Int) ≤ N

section
variable {S : Pgr} {n r P N : Int} {i : Int}
theorem Sees.pinned {Q : Int} (h : Sees S n r P N) (hle : P ≤ Q) : Sees S n r Q N :=
  ⟨h.clean, h.up, h.n, h.room, h.clock, h.reads, fun q hq => Int.le_trans (h.pins q hq) hle, h.log⟩
theorem Sees.mono {M : Int} (h : Sees S n r P N) (hle : N ≤ M) : Sees S n r P M :=
  ⟨h.clean, h.up, h.n, h.room, Int.le_trans h.clock hle, Int.le_trans h.reads hle, h.pins, Int.le_trans h.log hle⟩
theorem Sees.use (h : Sees S n r P N) {y : Pg} (hd : y.data = S.disk.blk i) (hp : y.pins ≤ P) : Sees (S.use i y) n r P (N + 1) := by
  have h1 := h.clock
  have h2 := h.reads
  have h3 := h.log
  refine ⟨fun q hq => ?_, h.up, h.n, h.room, by simp [Pgr.use]; omega, by simp [Pgr.use]; omega, fun q hq => ?_, by simp [Pgr.use]; omega⟩
  · simp only [Pgr.use] at hq ⊢
    rcases mem_ins hq with rfl | hq
    · exact hd
    · exact h.clean q hq
  · simp only [Pgr.use] at hq ⊢
    rcases mem_ins hq with rfl | hq
    · exact hp
    · exact h.pins q hq
theorem Sees.read (h : Sees S n r P N) : Sees (S.read i).2 n r P (N + 1) := by
  obtain ⟨r1, r2, r3, r4, r5, r6⟩ := read_held S i
  have h1 := h.clock
  have h2 := h.reads
  have h3 := h.log
  exact ⟨fun q hq => by rw [r1] at hq; rw [r4]; exact h.clean q hq, by rw [r4]; exact h.up, by rw [r4]; exact h.n, by rw [r5]; exact h.room, by omega, by omega, fun q hq => by rw [r1] at hq; exact h.pins q hq, by rw [r4]; omega⟩
theorem Sees.hold (h : Sees S n r P N) (h0 : 0 ≤ P) {s : ByteArray} (hs : s = S.disk.blk i) : Sees (S.hold i s) n r P (N + 1) := by
  obtain ⟨k1, k2, k3, k4, k5⟩ := hold_rest (S := S) i s
  have h1 := h.clock
  have h2 := h.reads
  have h3 := h.log
  exact ⟨clean_hold h.clean hs, by rw [k2]; exact h.up, by rw [k2]; exact h.n, by rw [k3]; exact h.room, by omega, by omega, fun q hq => hold_pins h.pins h0 i s q hq, by rw [k2]; omega⟩
theorem Sees.rd (h : Sees S n r P N) (h0 : 0 ≤ i) (h1 : i < n) : S.disk.read i = (S.disk.blk i, 0) := by
  unfold Dsk.read
  have : S.disk.may i = 0 := by unfold Dsk.may; rw [if_neg (by simp [h.up.down]), if_neg (by rw [h.n]; omega)]
  rw [if_pos this]
  rfl
theorem Sees.may (h : Sees S n r P N) (hp : isPage n i = true) : S.may i = 0 := by unfold Pgr.may; rw [h.n, if_pos hp]
theorem Sees.load (h : Sees S n r P N) (hP : 0 ≤ P) (hp : isPage n i = true) (h0 : 0 ≤ i) (h1 : i < n) :
    (S.load i).1 = ((get i S.changed).getD (S.disk.blk i), 0) ∧ (S.load i).2.changed = S.changed ∧ (S.load i).2.disk = S.disk ∧ Sees (S.load i).2 n r P (N + 2) := by
  have hm := h.may hp
  have hrd := h.rd h0 h1
  unfold Pgr.load
  rw [if_neg (by simpa using hm)]
  cases hc : get i S.changed with
  | some s => exact ⟨rfl, rfl, rfl, h.mono (by omega)⟩
  | none =>
    simp only
    cases hy : get i S.held with
    | some y =>
      have hd := h.clean _ (get_mem hy)
      simp only at hd
      have hpn := h.pins _ (get_mem hy)
      simp only at hpn
      exact ⟨by rw [← hd]; rfl, rfl, rfl, (h.use hd hpn).mono (by omega)⟩
    | none =>
      simp only
      rw [hrd]
      obtain ⟨r1, r2, r3, r4, r5, r6⟩ := read_held S i
      obtain ⟨k1, k2, k3, k4, k5⟩ := hold_rest (S := (S.read i).2) i (S.disk.blk i)
      exact ⟨rfl, by simp only [ne_eq, not_true, if_false]; rw [k1, r2], by simp only [ne_eq, not_true, if_false]; rw [k2, r4], by simp only [ne_eq, not_true, if_false]; exact ((h.read (i := i)).hold (by omega) (by rw [r4])).mono (by omega)⟩
theorem Sees.store (h : Sees S n r P N) (s : ByteArray) : Sees (S.store i s).2 n r P N := by
  obtain ⟨h1, h2, h3, h4⟩ := store_rest S i s
  refine ⟨clean_store h.clean i s, by rw [h1]; exact h.up, by rw [h1]; exact h.n, by rw [h4]; exact h.room, by rw [h2]; exact h.clock, by rw [h3]; exact h.reads, ?_, by rw [h1]; exact h.log⟩
  unfold Pgr.store
  split
  · exact h.pins
  · split
    · exact h.pins
    · split
      · split
        · exact h.pins
        · exact fun q hq => h.pins q (List.mem_filter.1 hq).1
      · exact fun q hq => h.pins q (List.mem_filter.1 hq).1
theorem store_ways (S : Pgr) (i : Int) (s : ByteArray) : ((S.store i s).1 = 0 ∧ (S.store i s).2.changed = ins i s S.changed) ∨ ((S.store i s).1 ≠ 0 ∧ (S.store i s).2.changed = S.changed) := by
  unfold Pgr.store
  split
  · rename_i hm; exact .inr ⟨hm, rfl⟩
  · split
    · exact .inr ⟨by simp, rfl⟩
    · split
      · split
        · exact .inr ⟨by simp, rfl⟩
        · exact .inl ⟨rfl, rfl⟩
      · exact .inl ⟨rfl, rfl⟩
theorem Sees.unpin (h : Sees S n r P N) : Sees (S.unpin i).2 n r P N ∧ (S.unpin i).2.changed = S.changed := by
  unfold Pgr.unpin
  cases hy : get i S.held with
  | none => exact ⟨h, rfl⟩
  | some y =>
    simp only
    split
    · exact ⟨h, rfl⟩
    · have hd := h.clean _ (get_mem hy)
      have hp := h.pins _ (get_mem hy)
      simp only at hd hp
      refine ⟨⟨fun q hq => ?_, h.up, h.n, h.room, h.clock, h.reads, fun q hq => ?_, h.log⟩, rfl⟩
      · rcases mem_ins hq with rfl | hq
        · exact hd
        · exact h.clean q hq
      · rcases mem_ins hq with rfl | hq
        · simp only; omega
        · exact h.pins q hq
theorem Sees.pin (h : Sees S n r P N) (hP : 0 ≤ P) (h0 : 0 ≤ i) (h1 : i < n) : Sees (S.pin i).2 n r (P + 1) (N + 3) ∧ (S.pin i).2.changed = S.changed := by
  have hrd := h.rd h0 h1
  have hq := h.pinned (Q := P + 1) (by omega)
  unfold Pgr.pin
  split
  · exact ⟨hq.mono (by omega), rfl⟩
  · cases hc : get i S.changed with
    | some s => exact ⟨hq.mono (by omega), rfl⟩
    | none =>
      simp only
      cases hy : get i S.held with
      | some y =>
        have hd := h.clean _ (get_mem hy)
        have hp := h.pins _ (get_mem hy)
        simp only at hd hp
        exact ⟨(hq.use (y := { y with pins := y.pins + 1 }) hd (by simp only; omega)).mono (by omega), rfl⟩
      | none =>
        simp only
        split
        · exact ⟨hq.mono (by omega), rfl⟩
        · rw [hrd]
          simp only [ne_eq, not_true, if_false]
          obtain ⟨r1, r2, r3, r4, r5, r6⟩ := read_held S i
          obtain ⟨k1, k2, k3, k4, k5⟩ := hold_rest (S := (S.read i).2) i (S.disk.blk i)
          have hh := ((hq.read (i := i)).hold (i := i) (s := S.disk.blk i) (by omega) (by rw [r4]))
          exact ⟨(hh.use (y := ⟨S.disk.blk i, 1, 0⟩) (by rw [k2, r4]) (by simp only; omega)).mono (by omega), by show ((S.read i).2.hold i (S.disk.blk i)).changed = S.changed; rw [k1, r2]⟩
theorem Sees.commit (hok : S.Ok) (h : Sees S n r P N) (hP : 0 ≤ P) : S.commit.1 = 0 ∧ S.commit.2.changed = [] ∧ Sees S.commit.2 n r P (N + 4000) := by
  obtain ⟨c1, c2, c3, c4, c5, c6, c7, c8⟩ := commit_clean hok h.up h.clean
  have h1 := h.clock
  have h2 := h.reads
  have h3 := h.log
  have hlg := commit_log S.disk S.changed
  have hfew : S.changed.length ≤ 1024 := by
    have hbk := hok.blocks
    have h1 := pages_few (n := S.disk.n) (by unfold Dsk.n; omega) (by unfold Dsk.n; omega) hok.srtc (fun q hq => (hok.changed q hq).1)
    have h2 := jPages_bd S.disk.n
    omega
  have hpins : ∀ q ∈ S.commit.2.held, q.2.pins ≤ P := by
    unfold Pgr.commit
    split
    · exact h.pins
    · exact holds_pins S.changed h.pins hP
  refine ⟨c1, c3, c2, c4, ?_, by rw [c8]; exact h.room, by omega, by omega, hpins, by rw [c5]; omega⟩
  rw [c5]
  unfold Dsk.n
  rw [(S.disk.commit_good S.changed).len]
  exact h.n
end

end Go.Proofs.YtdoankamaobkoaaGreatDoor
