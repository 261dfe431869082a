/- The tree's functions at nil. -/
import Derived.Test.YtmgcaohpbaiiaaaGreatDoorTSize
set_option linter.unusedSimpArgs false
set_option linter.unusedVariables false
namespace Go.Proofs.YtmgcaohpbaiiaaaGreatDoor
open Go.RowKit Go.Maps Go.Shelf

theorem at_nil (i : Int) (w : World) : Calls Tryz.prog 11 #[.pointer none, .int .i64 i] w fun e w' => e = .returned (.pointer none) ∧ w = w' := by
  go_enter Tryz.func11, Tryz.ntmps11
  go_wp2
  go_ret
  exact ⟨rfl, rfl⟩
theorem new_nil (w : World) : Calls Tryz.prog 10 #[.pointer none] w fun e w' => e = .returned (.tuple #[.int .i64 0, .int .i64 18]) ∧ Below w.heap.size w w' := by
  have hB : Below w.heap.size w (w.alloc (.cells #[.int .i64 18] 26)) := (Below.refl _ w).alloc (Nat.le_refl _) _
  go_enter_defers Tryz.func10, Tryz.ntmps10
  go_wp2
  refine leaves_cons (f := 27) (args := #[.pointer (some ⟨w.heap.size, 0, none⟩)]) (by simp) (by simp [go_sem]) ?_
  refine (settle_idle ⟨w.heap.size, 0, none⟩ _).mono ?_
  rintro e u' w'' ⟨rfl, rfl, rfl⟩
  simp [Leaves, settle, results, Tryz.results10, go_sem]
  exact hB
theorem put_nil (key value : ByteArray) (w : World) : Calls Tryz.prog 18 #[.pointer none, .string key, .string value] w fun e w' => e = .returned (.int .i64 18) ∧ Below w.heap.size w w' := by
  have hB : Below w.heap.size w (w.alloc (.cells #[.int .i64 18] 26)) := (Below.refl _ w).alloc (Nat.le_refl _) _
  go_enter_defers Tryz.func18, Tryz.ntmps18
  go_wp2
  simp [bodyPostD, Leaves, settle, results, Tryz.results18, go_sem]
  exact hB
theorem get_nil (key : ByteArray) (w : World) : Calls Tryz.prog 15 #[.pointer none, .string key] w fun e w' => e = .returned (.tuple #[.string ⟨#[]⟩, .bool false, .int .i64 18]) ∧ Below w.heap.size w w' := by
  have hB : Below w.heap.size w (w.alloc (.cells #[.int .i64 18] 26)) := (Below.refl _ w).alloc (Nat.le_refl _) _
  go_enter_defers Tryz.func15, Tryz.ntmps15
  go_wp2
  simp [bodyPostD, Leaves, settle, results, Tryz.results15, go_sem]
  exact hB
theorem del_nil (key : ByteArray) (w : World) : Calls Tryz.prog 16 #[.pointer none, .string key] w fun e w' => e = .returned (.tuple #[.bool false, .int .i64 18]) ∧ Below w.heap.size w w' := by
  have hB : Below w.heap.size w (w.alloc (.cells #[.int .i64 18] 26)) := (Below.refl _ w).alloc (Nat.le_refl _) _
  go_enter_defers Tryz.func16, Tryz.ntmps16
  go_wp2
  simp [bodyPostD, Leaves, settle, results, Tryz.results16, go_sem]
  exact hB
set_option maxRecDepth 100000 in
theorem list_nil (key : ByteArray) (i : Int) (w : World) : Calls Tryz.prog 13 #[.pointer none, .string key, .int .i64 i] w fun e w' => e = .returned (.tuple #[.slice none 0 0, .int .i64 18]) ∧ Below w.heap.size w w' := by
  go_enter_defers Tryz.func13, Tryz.ntmps13
  go_wp2
  simp [bodyPostD, Leaves, settle, results, Tryz.results13, go_sem]
  exact (((Below.refl w.heap.size w).alloc (Nat.le_refl _) _).alloc (by simp) _).alloc (by simp; omega) _
theorem pages_nil (w : World) : Calls Tryz.prog 17 #[.pointer none] w fun e w' => e = .returned (.tuple #[.slice none 0 0, .int .i64 18]) ∧ Below w.heap.size w w' := by
  go_enter_defers Tryz.func17, Tryz.ntmps17
  go_wp2
  simp [bodyPostD, Leaves, settle, results, Tryz.results17, go_sem]
  exact ((Below.refl w.heap.size w).alloc (Nat.le_refl _) _).alloc (by simp) _
end Go.Proofs.YtmgcaohpbaiiaaaGreatDoor
