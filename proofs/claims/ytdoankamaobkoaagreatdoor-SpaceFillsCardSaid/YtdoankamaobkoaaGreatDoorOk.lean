/- What always holds of a pager, holds behind each of its methods. -/
import Derived.Test.YtdoankamaobkoaaGreatDoorHold
set_option linter.unusedSimpArgs false
set_option linter.unusedVariables false
namespace Go.Proofs.YtdoankamaobkoaaGreatDoor
open Go.RowKit Go.Maps

theorem Pgr.hold_eq (S : Pgr) (i : Int) (s : ByteArray) : S.hold i s = if S.full then (match oldest S.held with | none => S | some o => S.holdIn (del o S.held) i s) else S.holdIn S.held i s := rfl
theorem Pgr.use_eq (S : Pgr) (i : Int) (x : Pg) : S.use i x = S.holdIn S.held i x.data ∨ True := .inr trivial

/-- one page more (or turned), the clock one on -/
theorem ok_ins {S : Pgr} (h : S.Ok) {l : List (Int × Pg)} (hl : ∀ q ∈ l, q ∈ S.held) (hsl : Srt l) {i : Int} {y : Pg} (hlen : ((ins i y l).length : Int) ≤ S.room) (hp : isPage S.disk.n i = true) (hpin : 0 ≤ y.pins) (hu : y.used = S.clock + 1)
    (hd : y.data.size = 256) (hc : get i S.changed = none) : Pgr.Ok { S with clock := S.clock + 1, held := ins i y l } := by
  have hmem : ∀ q ∈ ins i y l, (q = (i, y)) ∨ (q ∈ S.held ∧ q.1 ≠ i) := fun q hq => by
    by_cases e : q.1 = i
    · have := mem_get (srt_ins hsl) (show (q.1, q.2) ∈ ins i y l from hq)
      rw [e, get_ins_same] at this
      injection this with this
      exact .inl (by rw [← e, this])
    · rcases mem_ins hq with h' | h'
      · rw [h'] at e; exact absurd rfl e
      · exact .inr ⟨hl q h', e⟩
  refine ⟨h.room, hlen, srt_ins hsl, h.srtc, fun q hq => ?_, h.changed, fun q hq => ?_, fun q hq r hr e => ?_, h.blocks, h.sizes, ?_, h.reads⟩
  · rcases hmem q hq with rfl | ⟨hm, _⟩
    · have := h.clock; exact ⟨hp, hpin, by simp [hu]; omega, by simp [hu], hd⟩
    · obtain ⟨a, b, c, d, e⟩ := h.held q hm
      exact ⟨a, b, c, by simp only; omega, e⟩
  · rcases hmem q hq with rfl | ⟨hm, _⟩
    · exact hc
    · exact h.apart q hm
  · rcases hmem q hq with rfl | ⟨hm, _⟩
    · rcases hmem r hr with rfl | ⟨hm', _⟩
      · rfl
      · have := (h.held r hm').2.2.2.1; simp only [hu] at e; omega
    · rcases hmem r hr with rfl | ⟨hm', _⟩
      · have := (h.held q hm).2.2.2.1; simp only [hu] at e; omega
      · exact h.used q hm r hm' e
  · have := h.clock; simp only; omega

theorem ins_length_get {α : Type} {i : Int} {x y : α} : ∀ {l : List (Int × α)}, Srt l → get i l = some x → (ins i y l).length = l.length
  | [], _, h => by simp [get] at h
  | p :: r, hs, h => by
    obtain ⟨h1, h2⟩ := List.pairwise_cons.1 hs
    by_cases hp : p.1 = i
    · have : ins i y (p :: r) = (i, y) :: r := by unfold ins; rw [if_neg (by omega), if_pos hp]
      rw [this]; simp
    · have hr : get i r = some x := by unfold get at h ⊢; simpa [List.find?_cons, hp] using h
      have hlt := h1 _ (get_mem hr)
      simp at hlt
      have : ins i y (p :: r) = p :: ins i y r := by
        show (if i < p.1 then _ else if p.1 = i then _ else _) = _
        rw [if_neg (by omega), if_neg hp]
      rw [this]; simp [ins_length_get h2 hr]

theorem use_ok {S : Pgr} (h : S.Ok) {i : Int} {x y : Pg} (hx : get i S.held = some x) (hp : 0 ≤ y.pins) (hd : y.data.size = 256) : (S.use i y).Ok := by
  have hm := h.held _ (get_mem hx)
  exact ok_ins h (fun _ h => h) h.srt (i := i) (y := { y with used := S.clock + 1 }) (by rw [ins_length_get h.srt hx]; exact h.len) hm.1 hp rfl hd (h.apart _ (get_mem hx))
theorem full_none {S : Pgr} (h : S.Ok) (hf : S.full = false) : (S.held.length : Int) + 1 ≤ S.room := by
  simp [Pgr.full] at hf; omega
theorem hold_ok {S : Pgr} (h : S.Ok) {i : Int} {s : ByteArray} (hi : get i S.held = none) (hc : get i S.changed = none) (hp : isPage S.disk.n i = true) (hs : s.size = 256) : (S.hold i s).Ok := by
  rw [Pgr.hold_eq]
  cases hf : S.full
  · rw [if_neg (by simp)]
    exact ok_ins h (fun _ h => h) h.srt (i := i) (y := ⟨s, 0, S.clock + 1⟩) (by rw [ins_length hi]; have := full_none h hf; omega) hp (Int.le_refl _) rfl hs hc
  · rw [if_pos rfl]
    cases ho : oldest S.held with
    | none => exact h
    | some o =>
      obtain ⟨x, hx, _⟩ := oldest_mem ho
      refine ok_ins h (fun q hq => (List.mem_filter.1 hq).1) (srt_del h.srt) (l := del o S.held) (i := i) (y := ⟨s, 0, S.clock + 1⟩) ?_ hp (Int.le_refl _) rfl hs hc
      have h1 := del_length h.srt (k := o) (by rw [mem_get h.srt hx]; simp)
      have h2 := ins_length_le (k := i) (v := (⟨s, 0, S.clock + 1⟩ : Pg)) (l := del o S.held)
      have := h.len
      omega
theorem read_ok {S : Pgr} (h : S.Ok) (i : Int) : (S.read i).2.Ok := by
  unfold Pgr.read
  split
  · exact ⟨h.room, h.len, h.srt, h.srtc, h.held, h.changed, h.apart, h.used, h.blocks, h.sizes, h.clock, by have := h.reads; simp only; omega⟩
  · exact h
theorem read_held (S : Pgr) (i : Int) : (S.read i).2.held = S.held ∧ (S.read i).2.changed = S.changed ∧ (S.read i).2.clock = S.clock ∧ (S.read i).2.disk = S.disk ∧ (S.read i).2.room = S.room ∧ (S.read i).2.reads ≤ S.reads + 1 := by
  unfold Pgr.read
  split <;> simp <;> omega
theorem read_size {S : Pgr} (h : S.Ok) {i : Int} (hr : (S.disk.read i).2 = 0) : (S.disk.read i).1.size = 256 := by
  unfold Dsk.read at hr ⊢
  by_cases hm : S.disk.may i = 0
  · rw [if_pos hm]
    have hlt : 0 ≤ i ∧ i < S.disk.blocks.length := by
      unfold Dsk.may Dsk.n at hm
      split at hm
      · simp at hm
      · split at hm
        · simp at hm
        · omega
    have : i.toNat < S.disk.blocks.length := by omega
    simp only [List.getD, List.getElem?_eq_getElem this, Option.getD_some]
    exact h.sizes _ (List.getElem_mem this)
  · rw [if_neg hm] at hr
    exact absurd hr hm
theorem may_zero {S : Pgr} {i : Int} : S.may i = 0 ↔ isPage S.disk.n i = true := by
  unfold Pgr.may; split <;> simp_all
theorem load_ok {S : Pgr} (h : S.Ok) (i : Int) : (S.load i).2.Ok := by
  unfold Pgr.load
  by_cases hm : S.may i = 0
  · rw [if_neg (by simpa using hm)]
    cases hc : get i S.changed with
    | some s => exact h
    | none =>
      cases hx : get i S.held with
      | some x => have := (h.held _ (get_mem hx)); exact use_ok h hx this.2.1 this.2.2.2.2
      | none =>
        simp only
        by_cases hr : (S.disk.read i).2 = 0
        · rw [if_neg (by simpa using hr)]
          obtain ⟨e1, e2, e3, e4, _⟩ := read_held S i
          exact hold_ok (read_ok h i) (by rw [e1]; exact hx) (by rw [e2]; exact hc) (by rw [e4]; exact may_zero.1 hm) (read_size h hr)
        · rw [if_pos hr]; exact h
  · rw [if_pos hm]; exact h
theorem store_ok {S : Pgr} (h : S.Ok) (i : Int) (s : ByteArray) : (S.store i s).2.Ok := by
  have key : S.may i = 0 → s.size = 256 → Pgr.Ok { S with held := del i S.held, changed := ins i s S.changed } := fun hm hs => by
    have hsub : ∀ q ∈ del i S.held, q ∈ S.held ∧ q.1 ≠ i := fun q hq => by
      have := List.mem_filter.1 hq; exact ⟨this.1, by simpa using this.2⟩
    refine ⟨h.room, ?_, srt_del h.srt, srt_ins h.srtc, fun q hq => h.held q (hsub q hq).1, fun q hq => ?_, fun q hq => ?_, fun q hq r hr => h.used q (hsub q hq).1 r (hsub r hr).1, h.blocks, h.sizes, h.clock, h.reads⟩
    · have := h.len; have := del_length_le (k := i) (l := S.held); simp only; omega
    · rcases mem_ins hq with rfl | hq
      · exact ⟨may_zero.1 hm, hs⟩
      · exact h.changed q hq
    · show get q.1 (ins i s S.changed) = none
      rw [get_ins_other (hsub q hq).2]
      exact h.apart q (hsub q hq).1
  unfold Pgr.store
  by_cases hm : S.may i = 0
  · rw [if_neg (by simpa using hm)]
    by_cases hs : s.size = 256
    · rw [if_neg (by simpa using hs)]
      cases get i S.held with
      | none => exact key hm hs
      | some x =>
        simp only
        split
        · exact h
        · exact key hm hs
    · rw [if_pos hs]; exact h
  · rw [if_pos hm]; exact h
theorem unpin_ok {S : Pgr} (h : S.Ok) (i : Int) : (S.unpin i).2.Ok := by
  unfold Pgr.unpin
  cases hx : get i S.held with
  | none => exact h
  | some x =>
    simp only
    have hm := h.held _ (get_mem hx)
    split
    · exact h
    · rename_i hp
      have hmem : ∀ q ∈ ins i { x with pins := x.pins - 1 } S.held, q = (i, { x with pins := x.pins - 1 }) ∨ (q ∈ S.held ∧ q.1 ≠ i) := fun q hq => by
        by_cases e : q.1 = i
        · have := mem_get (srt_ins h.srt) (show (q.1, q.2) ∈ ins i { x with pins := x.pins - 1 } S.held from hq)
          rw [e, get_ins_same] at this
          injection this with this
          exact .inl (by rw [← e, this])
        · rcases mem_ins hq with h' | h'
          · rw [h'] at e; exact absurd rfl e
          · exact .inr ⟨h', e⟩
      refine ⟨h.room, by rw [ins_length_get h.srt hx]; exact h.len, srt_ins h.srt, h.srtc, fun q hq => ?_, h.changed, fun q hq => ?_, fun q hq r hr e => ?_, h.blocks, h.sizes, h.clock, h.reads⟩
      · rcases hmem q hq with rfl | ⟨hq, _⟩
        · simp only at hm ⊢; exact ⟨hm.1, by omega, hm.2.2.1, hm.2.2.2.1, hm.2.2.2.2⟩
        · exact h.held q hq
      · rcases hmem q hq with rfl | ⟨hq, _⟩
        · exact h.apart (i, x) (get_mem hx)
        · exact h.apart q hq
      · rcases hmem q hq with rfl | ⟨hq, _⟩
        · rcases hmem r hr with rfl | ⟨hr, _⟩
          · rfl
          · exact h.used (i, x) (get_mem hx) r hr e
        · rcases hmem r hr with rfl | ⟨hr, _⟩
          · exact h.used q hq (i, x) (get_mem hx) e
          · exact h.used q hq r hr e

theorem pin_ok {S : Pgr} (h : S.Ok) (i : Int) : (S.pin i).2.Ok := by
  unfold Pgr.pin
  by_cases hm : S.may i = 0
  · rw [if_neg (by simpa using hm)]
    cases hc : get i S.changed with
    | some s => exact h
    | none =>
      cases hx : get i S.held with
      | some x => have := (h.held _ (get_mem hx)); simp only at this; exact use_ok h hx (by simp only; omega) this.2.2.2.2
      | none =>
        simp only
        by_cases hf : (S.full && (oldest S.held).isNone) = true
        · rw [if_pos hf]; exact h
        · rw [if_neg hf]
          by_cases hr : (S.disk.read i).2 = 0
          · rw [if_neg (by simpa using hr)]
            obtain ⟨e1, e2, e3, e4, e5, _⟩ := read_held S i
            have h1 := hold_ok (read_ok h i) (s := (S.disk.read i).1) (by rw [e1]; exact hx) (by rw [e2]; exact hc) (by rw [e4]; exact may_zero.1 hm) (read_size h hr)
            have hg : ∃ y, get i ((S.read i).2.hold i (S.disk.read i).1).held = some y := by
              rw [Pgr.hold_eq]
              have hf' : (S.read i).2.full = S.full := by unfold Pgr.full; rw [e1, e5]
              rw [hf', e1]
              cases hF : S.full
              · rw [if_neg (by simp)]; exact ⟨_, get_ins_same⟩
              · rw [if_pos rfl]
                cases ho : oldest S.held with
                | none => simp [hF, ho] at hf
                | some o => exact ⟨_, get_ins_same⟩
            obtain ⟨y, hy⟩ := hg
            exact use_ok h1 hy (by simp) (read_size h hr)
          · rw [if_pos (by simpa using hr)]; exact h
  · rw [if_pos hm]; exact h
end Go.Proofs.YtdoankamaobkoaaGreatDoor
