/- What PagerPins asks of the plain pager: a page with a pin stays held whatever else is loaded. -/
import Derived.Test.YtdoankamaobkoaaWake2
set_option linter.unusedSimpArgs false
set_option linter.unusedVariables false
namespace Go.Proofs.Ytdoankamaobkoaa
open Go.RowKit Go.Maps Go.Shelf

theorem page70 : ∀ k : Nat, k < 32 → isPage 70 (37 + (k : Int)) = true := by decide
theorem page70' {i : Int} (h0 : 37 ≤ i) (h1 : i < 69) : isPage 70 i = true := by
  have := page70 (i - 37).toNat (by omega)
  rwa [show 37 + (((i - 37).toNat : Nat) : Int) = i from by omega] at this

/-- page 'one' is held with one pin, nothing is changed -/
structure Pinned (S : Pgr) (one : Int) (N : Int) : Prop where
  ok : S.Ok
  disk : S.disk = newDsk 70
  changed : S.changed = []
  held : ∃ x, get one S.held = some x ∧ x.pins = 1
  clock : S.clock ≤ N
  reads : S.reads ≤ N

theorem Pinned.may {S : Pgr} {one N i : Int} (h : Pinned S one N) (h0 : 37 ≤ i) (h1 : i < 69) : S.may i = 0 := by
  unfold Pgr.may; rw [h.disk, newDsk_n, if_pos]; exact page70' h0 h1
theorem get_holdIn {S : Pgr} {l : List (Int × Pg)} {i k : Int} {s : ByteArray} (hne : k ≠ i) : get k (S.holdIn l i s).held = get k l := by
  unfold Pgr.holdIn; exact get_ins_other hne

theorem Pinned.load {S : Pgr} {one N i : Int} (h : Pinned S one N) (h0 : 37 ≤ i) (h1 : i < 69) : Pinned (S.load i).2 one (N + 1) := by
  obtain ⟨x, hx, hp⟩ := h.held
  have hc : get i S.changed = none := by rw [h.changed]; rfl
  have hok := load_ok h.ok i
  have hm := h.may h0 h1
  have hrd : S.disk.read i = (zerosB 256, 0) := by rw [h.disk]; exact newDsk_read (by omega) (by omega)
  have e : S.load i = match get i S.held with | some y => ((y.data, 0), S.use i y) | none => ((zerosB 256, 0), (S.read i).2.hold i (zerosB 256)) := by
    unfold Pgr.load
    rw [if_neg (by simpa using hm), hc, hrd]
    rfl
  have hcl := h.clock
  have hrl := h.reads
  cases hy : get i S.held with
  | some y =>
    rw [hy] at e
    rw [e] at hok ⊢
    refine ⟨hok, h.disk, h.changed, ?_, by simp [Pgr.use]; omega, by simp [Pgr.use]; omega⟩
    by_cases hi : one = i
    · subst hi
      rw [hx] at hy; injection hy with hy; subst hy
      exact ⟨{ x with used := S.clock + 1 }, get_ins_same, hp⟩
    · exact ⟨x, by simp only [Pgr.use]; rw [get_ins_other hi]; exact hx, hp⟩
  | none =>
    rw [hy] at e
    have hne : one ≠ i := fun e => by rw [e, hy] at hx; simp at hx
    obtain ⟨r1, r2, r3, r4, r5, r6⟩ := read_held S i
    rw [e] at hok ⊢
    have hck := hold_clock (S.read i).2 i (zerosB 256)
    simp only at hok ⊢
    rw [Pgr.hold_eq] at *
    cases hf : (S.read i).2.full
    · rw [hf] at hok hck
      simp only [Bool.false_eq_true, if_false] at hok hck ⊢
      exact ⟨hok, by simp [Pgr.holdIn, r4, h.disk], by simp [Pgr.holdIn, r2, h.changed], ⟨x, by rw [get_holdIn hne, r1]; exact hx, hp⟩, by omega, by simp [Pgr.holdIn]; omega⟩
    · rw [hf] at hok hck
      simp only [if_true] at hok hck ⊢
      cases ho : oldest (S.read i).2.held with
      | none =>
        rw [ho] at hok hck
        exact ⟨hok, by rw [r4]; exact h.disk, by rw [r2]; exact h.changed, ⟨x, by rw [r1]; exact hx, hp⟩, by simp only at hck ⊢; omega, by simp only; omega⟩
      | some o =>
        rw [ho] at hok hck
        have hno : one ≠ o := fun eo => by
          obtain ⟨y, hmo, hy0⟩ := oldest_mem ho
          rw [r1] at hmo
          have := mem_get h.ok.srt hmo
          rw [← eo, hx] at this
          injection this with this
          rw [this] at hp; omega
        exact ⟨hok, by simp [Pgr.holdIn, r4, h.disk], by simp [Pgr.holdIn, r2, h.changed], ⟨x, by rw [get_holdIn hne, get_del_other hno, r1]; exact hx, hp⟩, by simp only at hck ⊢; omega, by simp [Pgr.holdIn]; omega⟩

/-- the start: the page is pinned -/
theorem pinned_start {room one : Int} (h1 : 1 ≤ room) (h2 : room ≤ 1024) (h0 : 37 ≤ one) (h3 : one < 69) :
    ((newPgr (newDsk 70) room).pin one).1 = 0 ∧ Pinned ((newPgr (newDsk 70) room).pin one).2 one 2 := by
  have hok : (newPgr (newDsk 70) room).Ok := newPgr_ok h1 h2 (by simp [newDsk]) (by simp [newDsk, zerosB_size])
  have hm : (newPgr (newDsk 70) room).may one = 0 := by
    unfold Pgr.may newPgr; rw [newDsk_n, if_pos]; exact page70' h0 h3
  have hrd : (newPgr (newDsk 70) room).disk.read one = (zerosB 256, 0) := newDsk_read (by omega) (by omega)
  have hf : (newPgr (newDsk 70) room).full = false := by show decide (room ≤ (([] : List (Int × Pg)).length : Int)) = false; simp; omega
  have hrr : ((newPgr (newDsk 70) room).read one).2 = { newPgr (newDsk 70) room with reads := 1 } := by
    unfold Pgr.read; rw [hrd]; rfl
  have e : (newPgr (newDsk 70) room).pin one = (0, ⟨newDsk 70, room, [(one, ⟨zerosB 256, 1, 2⟩)], [], 2, 1⟩) := by
    unfold Pgr.pin
    rw [if_neg (by simpa using hm), hrd, hrr]
    simp only [newPgr, get, List.find?_nil, Option.map_none]
    have hf' : (⟨newDsk 70, room, [], [], 0, 0⟩ : Pgr).full = false := hf
    have hf'' : (⟨newDsk 70, room, [], [], 0, 1⟩ : Pgr).full = false := by show decide (room ≤ (([] : List (Int × Pg)).length : Int)) = false; simp; omega
    simp [hf', Pgr.hold, hf'', Pgr.use, ins]
  have hpo := pin_ok hok one
  rw [e] at hpo ⊢
  exact ⟨rfl, hpo, rfl, rfl, ⟨⟨zerosB 256, 1, 2⟩, by simp [get], rfl⟩, Int.le_refl _, by simp⟩

/-- the end: each answer behind the loop -/
theorem pinned_end {S : Pgr} {one N : Int} (h : Pinned S one N) (h0 : 37 ≤ one) (h1 : one < 69) {x : ByteArray} (hx : x.size = 256) : ∃ (y : ByteArray) (S1 S2 S3 : Pgr),
    S.load one = ((y, 0), S1) ∧ S1.reads = S.reads ∧ S1.store one x = (10, S1) ∧ S1.unpin one = (0, S2) ∧ S2.unpin one = (8, S2) ∧ S2.store one x = (0, S3) ∧ S3.pin one = (19, S3) ∧
    S1.clock ≤ N + 1 ∧ S1.reads ≤ N + 1 ∧ S3.clock ≤ N + 1 ∧ S3.reads ≤ N + 1 ∧ (∀ z, get one S1.held = some z → z.pins ≤ 1) ∧ (∀ z, get one S2.held = some z → z.pins ≤ 1) ∧ (∀ z, get one S3.held = some z → z.pins ≤ 1) := by
  obtain ⟨p, hp, hpp⟩ := h.held
  have hcl := h.clock
  have hrl := h.reads
  have hm := h.may h0 h1
  have hc : get one S.changed = none := by rw [h.changed]; rfl
  have e1 : S.load one = ((p.data, 0), S.use one p) := by
    unfold Pgr.load; rw [if_neg (by simpa using hm), hc, hp]
  have hm1 : (S.use one p).may one = 0 := hm
  have g1 : get one (S.use one p).held = some { p with used := S.clock + 1 } := get_ins_same
  have e2 : (S.use one p).store one x = (10, S.use one p) := by
    unfold Pgr.store; rw [if_neg (by simpa using hm1), if_neg (by simpa using hx), g1]; simp [hpp]
  have e3 : (S.use one p).unpin one = (0, { S.use one p with held := ins one { p with used := S.clock + 1, pins := 0 } (S.use one p).held }) := by
    unfold Pgr.unpin; rw [g1]; simp [hpp]
  have g2 : get one ({ S.use one p with held := ins one { p with used := S.clock + 1, pins := 0 } (S.use one p).held } : Pgr).held = some { p with used := S.clock + 1, pins := 0 } := get_ins_same
  obtain ⟨S2, hS2⟩ : ∃ S2 : Pgr, S2 = { S.use one p with held := ins one { p with used := S.clock + 1, pins := 0 } (S.use one p).held } := ⟨_, rfl⟩
  rw [← hS2] at e3 g2
  have hm2 : S2.may one = 0 := by rw [hS2]; exact hm
  have e4 : S2.unpin one = (8, S2) := by unfold Pgr.unpin; rw [g2]; simp
  have e5 : S2.store one x = (0, { S2 with held := del one S2.held, changed := ins one x S2.changed }) := by
    unfold Pgr.store; rw [if_neg (by simpa using hm2), if_neg (by simpa using hx), g2]; simp
  obtain ⟨S3, hS3⟩ : ∃ S3 : Pgr, S3 = { S2 with held := del one S2.held, changed := ins one x S2.changed } := ⟨_, rfl⟩
  rw [← hS3] at e5
  have hm3 : S3.may one = 0 := by rw [hS3]; exact hm2
  have e6 : S3.pin one = (19, S3) := by
    unfold Pgr.pin; rw [if_neg (by simpa using hm3)]
    have : get one S3.changed = some x := by rw [hS3]; exact get_ins_same
    rw [this]
  refine ⟨p.data, _, S2, S3, e1, rfl, e2, e3, e4, e5, e6, by simp [Pgr.use]; omega, by simp [Pgr.use]; omega, by rw [hS3, hS2]; simp [Pgr.use]; omega, by rw [hS3, hS2]; simp [Pgr.use]; omega, ?_, ?_, ?_⟩
  · intro z hz; rw [g1] at hz; injection hz with hz; rw [← hz]; simp [hpp]
  · intro z hz; rw [g2] at hz; injection hz with hz; rw [← hz]; simp
  · intro z hz; rw [hS3] at hz; simp only at hz; rw [get_del_same] at hz; simp at hz
end Go.Proofs.Ytdoankamaobkoaa
