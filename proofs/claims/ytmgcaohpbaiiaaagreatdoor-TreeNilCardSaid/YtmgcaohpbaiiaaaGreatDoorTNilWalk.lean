/- TreeNil: the walk. -/
import Derived.Test.YtmgcaohpbaiiaaaGreatDoorTWakes
set_option linter.unusedSimpArgs false
set_option linter.unusedVariables false
namespace Go.Proofs.YtmgcaohpbaiiaaaGreatDoor
open Go.RowKit Go.Maps Go.Shelf

set_option maxHeartbeats 4000000 in
set_option maxRecDepth 100000 in
theorem tnil_walk (key value : ByteArray) (i : Int) (w : World) (hg : Glob w) :
    Calls Tryz.prog 4 #[.string key, .string value, .int .i64 i] w fun e w' => e = .returned (.bool true) ∧ Below w.heap.size w w' := by
  have HW := Lib.hid (twakes_any w hg)
  clear hg
  go_enter Tryz.func4, Tryz.ntmps4
  go_wp2_with fail
  refine HW.out.mono ?_
  rintro e w1 ⟨rfl, hB⟩
  have HB1 := Lib.hid hB
  clear hB HW
  go_wp2_with fail
  refine (at_nil _ _).mono ?_
  rintro e w2 ⟨rfl, rfl⟩
  go_wp2_with fail
  refine (new_nil _).mono ?_
  rintro e w2 ⟨rfl, hB⟩
  have HB2 := Lib.hid (HB1.out.trans (hB.mono HB1.out.size))
  clear hB HB1
  go_wp2_with fail
  refine (get_nil _ _).mono ?_
  rintro e w3 ⟨rfl, hB⟩
  have HB3 := Lib.hid (HB2.out.trans (hB.mono HB2.out.size))
  clear hB HB2
  go_wp2_with fail
  refine (del_nil _ _).mono ?_
  rintro e w4 ⟨rfl, hB⟩
  have HB4 := Lib.hid (HB3.out.trans (hB.mono HB3.out.size))
  clear hB HB3
  go_wp2_with fail
  refine (list_nil _ _ _).mono ?_
  rintro e w5 ⟨rfl, hB⟩
  have HB5 := Lib.hid (HB4.out.trans (hB.mono HB4.out.size))
  clear hB HB4
  go_wp2_with fail
  refine (pages_nil _).mono ?_
  rintro e w6 ⟨rfl, hB⟩
  have HB6 := Lib.hid (HB5.out.trans (hB.mono HB5.out.size))
  clear hB HB5
  go_wp2_with fail
  refine (put_nil _ _ _).mono ?_
  rintro e w7 ⟨rfl, hB⟩
  have HB7 := Lib.hid (HB6.out.trans (hB.mono HB6.out.size))
  clear hB HB6
  go_wp2
  go_ret
  exact ⟨rfl, HB7.out⟩
end Go.Proofs.YtmgcaohpbaiiaaaGreatDoor
