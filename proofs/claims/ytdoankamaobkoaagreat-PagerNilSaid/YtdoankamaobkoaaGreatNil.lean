/- A nil pager, and a nil disk: what each call comes to. -/
import Derived.Test.YtdoankamaobkoaaGreatWake2
set_option linter.unusedSimpArgs false
set_option linter.unusedVariables false
namespace Go.Proofs.YtdoankamaobkoaaGreat
open Go.RowKit Go.Maps Go.Shelf

theorem pmay_nil (i : Int) (w : World) :
    Calls Tryz.prog 33 #[.pointer none, .int .i64 i] w fun e w' => e = .returned (.int .i64 18) ∧ w = w' := by
  go_enter Tryz.func33, Tryz.ntmps33
  go_wp2
  go_ret
  exact ⟨rfl, rfl⟩
theorem load_nil (i : Int) (w : World) :
    Calls Tryz.prog 16 #[.pointer none, .int .i64 i] w fun e w' => e = .returned (.tuple #[.string ⟨#[]⟩, .int .i64 18]) ∧ w = w' := by
  go_enter Tryz.func16, Tryz.ntmps16
  go_wp2_with (go_at_call 33; refine (pmay_nil _ _).mono ?_; rintro e w' ⟨rfl, rfl⟩)
  go_ret2
  exact ⟨rfl, rfl⟩
theorem store_nil (i : Int) (s : ByteArray) (w : World) :
    Calls Tryz.prog 10 #[.pointer none, .int .i64 i, .string s] w fun e w' => e = .returned (.int .i64 18) ∧ w = w' := by
  go_enter Tryz.func10, Tryz.ntmps10
  go_wp2_with (go_at_call 33; refine (pmay_nil _ _).mono ?_; rintro e w' ⟨rfl, rfl⟩)
  go_ret
  exact ⟨rfl, rfl⟩
theorem pin_nil (i : Int) (w : World) :
    Calls Tryz.prog 19 #[.pointer none, .int .i64 i] w fun e w' => e = .returned (.int .i64 18) ∧ w = w' := by
  go_enter Tryz.func19, Tryz.ntmps19
  go_wp2_with (go_at_call 33; refine (pmay_nil _ _).mono ?_; rintro e w' ⟨rfl, rfl⟩)
  go_ret
  exact ⟨rfl, rfl⟩
theorem unpin_nil (i : Int) (w : World) :
    Calls Tryz.prog 20 #[.pointer none, .int .i64 i] w fun e w' => e = .returned (.int .i64 18) ∧ w = w' := by
  go_enter Tryz.func20, Tryz.ntmps20
  go_wp2
  go_ret
  exact ⟨rfl, rfl⟩
theorem commit_nil (w : World) :
    Calls Tryz.prog 13 #[.pointer none] w fun e w' => e = .returned (.int .i64 18) ∧ w = w' := by
  go_enter Tryz.func13, Tryz.ntmps13
  go_wp2
  go_ret
  exact ⟨rfl, rfl⟩
theorem undo_nil (w : World) :
    Calls Tryz.prog 15 #[.pointer none] w fun e w' => e = .returned (.tuple #[]) ∧ w = w' := by
  go_enter Tryz.func15, Tryz.ntmps15
  go_wp2
  go_end0
  exact ⟨rfl, rfl⟩
theorem dirty_nil (w : World) :
    Calls Tryz.prog 17 #[.pointer none] w fun e w' => e = .returned (.slice none 0 0) ∧ w = w' := by
  go_enter Tryz.func17, Tryz.ntmps17
  go_wp2
  go_ret
  exact ⟨rfl, rfl⟩
theorem held_nil (w : World) :
    Calls Tryz.prog 21 #[.pointer none] w fun e w' => e = .returned (.slice none 0 0) ∧ Below w.heap.size w w' := by
  go_enter Tryz.func21, Tryz.ntmps21
  go_wp2
  go_ret
  exact ⟨rfl, (Below.refl _ w).alloc (Nat.le_refl _) _⟩
theorem reads_nil (w : World) :
    Calls Tryz.prog 22 #[.pointer none] w fun e w' => e = .returned (.int .i64 0) ∧ w = w' := by
  go_enter Tryz.func22, Tryz.ntmps22
  go_wp2
  go_ret
  exact ⟨rfl, rfl⟩
theorem new_nil (room : Int) (w : World) :
    Calls Tryz.prog 9 #[.pointer none, .int .i64 room] w fun e w' => e = .returned (.tuple #[.pointer none, .int .i64 18]) ∧ w = w' := by
  go_enter Tryz.func9, Tryz.ntmps9
  go_wp2
  go_ret2
  exact ⟨rfl, rfl⟩

end Go.Proofs.YtdoankamaobkoaaGreat
