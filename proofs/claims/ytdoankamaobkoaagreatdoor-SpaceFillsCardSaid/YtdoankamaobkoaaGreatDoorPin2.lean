/- pager.Pin. -/
import Derived.Test.YtdoankamaobkoaaGreatDoorPin
import Derived.StillTailTactics
set_option linter.unusedSimpArgs false
set_option linter.unusedVariables false
namespace Go.Proofs.YtdoankamaobkoaaGreatDoor
open Go.RowKit Go.Maps

theorem hold_clock (S : Pgr) (i : Int) (s : ByteArray) : S.clock ≤ (S.hold i s).clock ∧ (S.hold i s).clock ≤ S.clock + 1 := by
  rw [Pgr.hold_eq]
  split
  · split
    · omega
    · simp [Pgr.holdIn]; omega
  · simp [Pgr.holdIn]; omega
theorem hold_get {S : Pgr} {i : Int} {s : ByteArray} (h : (S.full && (oldest S.held).isNone) = false) : ∃ ck, Hid (get i (S.hold i s).held = some ⟨s, 0, ck⟩) := by
  rw [Pgr.hold_eq]
  cases hF : S.full
  · rw [if_neg (by simp)]; exact ⟨_, get_ins_same⟩
  · rw [if_pos rfl]
    cases ho : oldest S.held with
    | none => simp [hF, ho] at h
    | some o => exact ⟨_, get_ins_same⟩

end Go.Proofs.YtdoankamaobkoaaGreatDoor
