/- PagerNil: the walk. -/
import Derived.Test.YtdoankamaobkoaaGreatNil
set_option linter.unusedSimpArgs false
set_option linter.unusedVariables false

namespace Go.Proofs.YtdoankamaobkoaaGreat
open Go.RowKit Go.Maps Go.Shelf

set_option maxHeartbeats 2000000 in
theorem nil_walk (at_ room : Int) (s : ByteArray) (w : World) :
    Calls Tryz.prog 4 #[.int .i64 at_, .string s, .int .i64 room] w fun e w' => e = .returned (.bool true) ∧ Below w.heap.size w w' := by
  go_enter Tryz.func4, Tryz.ntmps4
  go_wp2_with (first
    | (go_at_call 7; refine (wakes_any _).mono ?_; rintro e w1 ⟨rfl, hB1⟩)
    | (go_at_call 15; refine (undo_nil _).mono ?_; rintro e w' ⟨rfl, rfl⟩)
    | (go_at_call 16; refine (load_nil _ _).mono ?_; rintro e w' ⟨rfl, rfl⟩)
    | (go_at_call 9; refine (new_nil _ _).mono ?_; rintro e w' ⟨rfl, rfl⟩)
    | (go_at_call 10; refine (store_nil _ _ _).mono ?_; rintro e w' ⟨rfl, rfl⟩)
    | (go_at_call 19; refine (pin_nil _ _).mono ?_; rintro e w' ⟨rfl, rfl⟩)
    | (go_at_call 20; refine (unpin_nil _ _).mono ?_; rintro e w' ⟨rfl, rfl⟩)
    | (go_at_call 13; refine (commit_nil _).mono ?_; rintro e w' ⟨rfl, rfl⟩)
    | (go_at_call 17; refine (dirty_nil _).mono ?_; rintro e w' ⟨rfl, rfl⟩)
    | (go_at_call 21; refine (held_nil _).mono ?_; rintro e w2 ⟨rfl, hB2⟩)
    | (go_at_call 22; refine (reads_nil _).mono ?_; rintro e w' ⟨rfl, rfl⟩))
  go_ret
  exact ⟨rfl, hB1.trans (hB2.mono hB1.size)⟩

end Go.Proofs.YtdoankamaobkoaaGreat
