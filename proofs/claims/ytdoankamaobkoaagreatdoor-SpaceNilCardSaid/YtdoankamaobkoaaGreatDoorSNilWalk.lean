/- SpaceNil: the walk. -/
import Derived.Test.YtdoankamaobkoaaGreatDoorSWake
set_option linter.unusedSimpArgs false
set_option linter.unusedVariables false
namespace Go.Proofs.YtdoankamaobkoaaGreatDoor
open Go.RowKit Go.Maps Go.Shelf

set_option maxHeartbeats 4000000 in
set_option maxRecDepth 100000 in
theorem snil_walk (i : Int) (x : ByteArray) (room : Int) (w : World) (hg : Glob w) :
    Calls Tryz.prog 6 #[.int .i64 i, .string x, .int .i64 room] w fun e w' => e = .returned (.bool true) ∧ Below w.heap.size w w' := by
  have HW := Lib.hid (swakes_any w hg)
  by_cases h : room < 1 ∨ 1024 < room
  · have HO : Hid (∀ d W, Calls Tryz.prog 19 #[.pointer (some d), .int .i64 room] W fun e w' => e = .returned (.tuple #[.pointer none, .int .i64 1]) ∧ W = w') := fun d W => sopen_bad d room W h
    clear hg
    go_enter Tryz.func6, Tryz.ntmps6
    go_wp2_with fail
    refine HW.out.mono ?_
    rintro e w1 ⟨rfl, hB⟩
    have HB1 := Lib.hid hB
    clear hB HW
    go_wp2_with (first
      | (go_at_call 24; refine (sundo_nil _).mono ?_; rintro e w' ⟨rfl, rfl⟩)
      | (go_at_call 25; refine (shead_nil _).mono ?_; rintro e w' ⟨rfl, rfl⟩)
      | (go_at_call 26; refine (sget_nil _ _).mono ?_; rintro e w' ⟨rfl, rfl⟩)
      | (go_at_call 13; refine (salloc_nil _).mono ?_; rintro e w' ⟨rfl, rfl⟩)
      | (go_at_call 27; refine (sset_nil _ _).mono ?_; rintro e w' ⟨rfl, rfl⟩)
      | (go_at_call 28; refine (sput_nil _ _ _).mono ?_; rintro e w' ⟨rfl, rfl⟩)
      | (go_at_call 16; refine (srelease_nil _ _).mono ?_; rintro e w' ⟨rfl, rfl⟩)
      | (go_at_call 15; refine (scommit_nil _).mono ?_; rintro e w' ⟨rfl, rfl⟩)
      | (go_at_call 14; refine (sfree_nil _).mono ?_; rintro e w' ⟨rfl, rfl⟩)
      | (go_at_call 29; refine (staken_nil _).mono ?_; rintro e w' ⟨rfl, rfl⟩)
      | (go_at_call 19; refine (sopen_nil _ _).mono ?_; rintro e w' ⟨rfl, rfl⟩))
    refine (diskNew_any 64 w1 (by omega) (by omega)).mono ?_
    rintro e w2 ⟨d, bb, rfl, _, _, _, hB⟩
    have HB2 := Lib.hid (HB1.out.trans (hB.mono HB1.out.size))
    have hO := HO.out ⟨d, 0, none⟩ w2
    clear hB HB1 HO
    rcases h with h | h
    · go_wp2_with (go_at_call 19; refine hO.mono ?_; rintro e w' ⟨rfl, rfl⟩)
      go_ret
      exact ⟨rfl, HB2.out⟩
    · have h1 : 1 ≤ room := by omega
      go_wp2_with (go_at_call 19; refine hO.mono ?_; rintro e w' ⟨rfl, rfl⟩)
      go_ret
      refine ⟨?_, HB2.out⟩
      show Ending.returned (.bool (!decide (room ≤ 1024))) = Ending.returned (.bool true)
      rw [decide_eq_false (by omega)]; rfl
  · have h1 : 1 ≤ room := by omega
    have h2 : room ≤ 1024 := by omega
    have HG := Lib.hid hg
    clear h hg
    go_enter Tryz.func6, Tryz.ntmps6
    go_wp2_with fail
    refine HW.out.mono ?_
    rintro e w1 ⟨rfl, hB⟩
    have HB1 := Lib.hid hB
    clear hB HW
    go_wp2_with (first
      | (go_at_call 24; refine (sundo_nil _).mono ?_; rintro e w' ⟨rfl, rfl⟩)
      | (go_at_call 25; refine (shead_nil _).mono ?_; rintro e w' ⟨rfl, rfl⟩)
      | (go_at_call 26; refine (sget_nil _ _).mono ?_; rintro e w' ⟨rfl, rfl⟩)
      | (go_at_call 13; refine (salloc_nil _).mono ?_; rintro e w' ⟨rfl, rfl⟩)
      | (go_at_call 27; refine (sset_nil _ _).mono ?_; rintro e w' ⟨rfl, rfl⟩)
      | (go_at_call 28; refine (sput_nil _ _ _).mono ?_; rintro e w' ⟨rfl, rfl⟩)
      | (go_at_call 16; refine (srelease_nil _ _).mono ?_; rintro e w' ⟨rfl, rfl⟩)
      | (go_at_call 15; refine (scommit_nil _).mono ?_; rintro e w' ⟨rfl, rfl⟩)
      | (go_at_call 14; refine (sfree_nil _).mono ?_; rintro e w' ⟨rfl, rfl⟩)
      | (go_at_call 29; refine (staken_nil _).mono ?_; rintro e w' ⟨rfl, rfl⟩)
      | (go_at_call 19; refine (sopen_nil _ _).mono ?_; rintro e w' ⟨rfl, rfl⟩))
    refine (diskNew_any 64 w1 (by omega) (by omega)).mono ?_
    rintro e w2 ⟨d, bb, rfl, hD, hd, hbb, hB⟩
    have hO := open_new (room := room) (HB1.out.trans (hB.mono HB1.out.size)) HG.out hD (by have := HB1.out.size; omega) (by have := HB1.out.size; omega) h1 h2 (by omega) (by omega)
    clear hB HB1 hD hd hbb
    go_wp2_with fail
    refine hO.mono ?_
    rintro e w3 ⟨s, F, rfl, hS, _, _⟩
    have HS := Lib.hid hS.below
    clear hS hO
    go_wp2
    go_ret
    exact ⟨rfl, HS.out⟩
end Go.Proofs.YtdoankamaobkoaaGreatDoor
