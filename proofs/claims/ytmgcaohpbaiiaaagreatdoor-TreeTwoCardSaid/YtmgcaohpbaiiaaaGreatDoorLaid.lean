/- What the row's condition on errors.errorType gives a walk: its one cell; and a world that meets it. -/
import Derived.Test.YtmgcaohpbaiiaaaGreatDoorRows
import Derived.Test.YtmgcaohpbaiiaaaGreatDoorErr
import Derived.ChangeSame
import Derived.ChangeVars
import Derived.JoinedOf
import Derived.LaidLaws
import Derived.LaidHandle
import Derived.Stop.Joined
namespace Go.Proofs.YtmgcaohpbaiiaaaGreatDoor
open Go.ChangeShapes Go.WideShapes Go.RowKit
set_option linter.unusedVariables false

theorem lOwn : ownKnob Tryz.prog.godebug = none := by kernel_rfl
theorem lLaidOut : laidOutB Tryz.prog = true := by kernel_rfl
theorem lEt : Tryz.prog.globalNamed "errors.errorType" = some 0 := by kernel_rfl
theorem lRt : (Tryz.prog.cutTypes.find? (·.1 == "internal/reflectlite.rtype")).map (·.2) = some 236 := by kernel_rfl
theorem lTySize : Tryz.prog.types.size = 291 := by kernel_rfl
theorem lOneRow : ((List.range 291).filter fun t => Tryz.prog.rowNamed t [101, 114, 114, 111, 114]) = [99] := by kernel_rfl

abbrev laidL : List (String × DataW Unit) := [("errors.errorType", Rows.laid_errors_errorType)]
theorem glob_of_laid {W : World} (h : laidMetH Tryz.prog laidL W) : Glob W := by
  have h' : laidMet Tryz.prog [] W ∧ handlesMet Tryz.prog laidL W := h
  obtain ⟨name, u, ty, e1, e2, e3, e4, e5⟩ := h'.2 _ (List.mem_singleton.2 rfl)
  have en : name = [101, 114, 114, 111, 114] := (Option.some.inj e1).symm
  subst en
  obtain rfl := Option.some.inj (lRt.symm.trans e2)
  have hm : ty ∈ (List.range 291).filter fun t => Tryz.prog.rowNamed t [101, 114, 114, 111, 114] := List.mem_filter.2 ⟨List.mem_range.2 (by rw [← lTySize]; exact e3), e4⟩
  rw [lOneRow] at hm
  obtain rfl := List.mem_singleton.1 hm
  have hh : typeHandle Tryz.prog 99 = .pointer (some ⟨2, 99, none⟩) := by kernel_rfl
  rw [hh] at e5
  unfold Glob
  simpa using World.var?_cell lEt e5 0

/-- A world that meets the condition: the settled one, the variable's cell laid. -/
noncomputable def laidWorld (os : Os) : World :=
  let w0 := World.holding Tryz.prog os ⟨#[], #[], []⟩
  { w0 with heap := w0.heap.modify 0 fun
      | .cells _ t frozen => .cells #[.iface 236 (.agg #[.pointer (some ⟨2, 99, none⟩)])] t frozen
      | o => o }
theorem laidWorld_met (os : Os) (args : Array Value) : laidMetH Tryz.prog laidL ((laidWorld os).forCall (fun _ _ => 0) ⟨#[], args, []⟩).memory :=
  laidMetH_of_parts (laidMet_nil _ _) (by kernel_rfl)
end Go.Proofs.YtmgcaohpbaiiaaaGreatDoor
