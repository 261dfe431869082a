/- tree.name, page; leaf.Cut. -/
import Derived.Test.YtmgcaohpbaiiaaaGreatDoorTLeaf
import Derived.Test.YtmgcaohpbaiiaaaGreatDoorTUnp
set_option linter.unusedSimpArgs false
set_option linter.unusedVariables false
namespace Go.Proofs.YtmgcaohpbaiiaaaGreatDoor
open Go.RowKit Go.Maps Go.Shelf

def nmB (n : Nat) : ByteArray := putB n 2
def pgN (v : ByteArray) : Nat := getN v 0 2
theorem byteN_put (n k p : Nat) (h : p < k) : byteN (putB n k) p = n / 2 ^ (8 * (k - 1 - p)) % 256 := by
  unfold byteN putB
  simp [List.getD_eq_getElem?_getD, List.getElem?_range h]
theorem pgN_nm {n : Nat} (h : n < 65536) : pgN (nmB n) = n := by
  unfold pgN nmB
  rw [getN_succ, getN_succ]
  simp only [getN, List.range_zero, List.foldl_nil]
  rw [byteN_put n 2 _ (by omega), byteN_put n 2 _ (by omega)]
  omega
theorem nmB_size (n : Nat) : (nmB n).size = 2 := putB_size n 2
set_option maxHeartbeats 1000000 in
theorem name_any (n : Nat) (w : World) (hn : n < 65536) :
    Calls Tryz.prog 88 #[.int .i64 n] w fun e w' => e = .returned (.string (nmB n)) ∧ Below w.heap.size w w' := by
  have hP := put_any n 2 w (by omega) (by omega) (by omega)
  have hu : IntKind.u64.wrap (n : Int) = n := wraps_u64 _ (by omega) (by omega)
  have HM : Hid (∀ W, Calls Tryz.prog 44 #[.int .i64 0] W fun e w' => e = .returned (.tuple #[]) ∧ W = w') := fun W => must_ok W
  unfold nmB
  generalize putB n 2 = s at *
  go_enter Tryz.func88, Tryz.ntmps88
  go_wp2_with fail
  refine hP.mono ?_
  rintro e w1 ⟨rfl, hB⟩
  have hm := HM.out w1
  go_wp2_with (go_at_call 44; refine hm.mono ?_; rintro e w' ⟨rfl, rfl⟩)
  go_ret
  exact ⟨rfl, hB⟩
set_option maxHeartbeats 1000000 in
theorem page_of (k v : ByteArray) (w : World) (hv : 2 ≤ v.size) (hv2 : v.size ≤ 1000) :
    Calls Tryz.prog 41 #[.agg #[.string k, .string v]] w fun e w' => e = .returned (.int .i64 (pgN v : Nat)) ∧ Below w.heap.size w w' := by
  have HG : Hid (∀ W, Calls Tryz.prog 77 #[.string v, .int .i64 0, .int .i64 2] W fun e w' => e = .returned (.tuple #[.int .u64 (pgN v : Nat), .int .i64 0]) ∧ W = w') := fun W => get_any v 0 2 W (by omega) (by omega) (by omega) (by omega)
  have hlt : pgN v < 65536 := getN_lt v 0 2
  have hu : wrap64 (pgN v : Int) = pgN v := IntWalk.wrap64_in _ (by omega)
  have hu2 : IntKind.i64.wrap (pgN v : Int) = pgN v := IntWalk.i64_in _ (by omega)
  have HM : Hid (∀ W, Calls Tryz.prog 44 #[.int .i64 0] W fun e w' => e = .returned (.tuple #[]) ∧ W = w') := fun W => must_ok W
  generalize pgN v = n at *
  have hB1 : Below w.heap.size w (w.alloc (.cells #[.string k, .string v] 59)) := (Below.refl _ w).alloc (Nat.le_refl _) _
  have hg := HG.out (w.alloc (.cells #[.string k, .string v] 59))
  have hm := HM.out (w.alloc (.cells #[.string k, .string v] 59))
  go_enter Tryz.func41, Tryz.ntmps41
  go_wp2_with fail
  refine hg.mono ?_
  rintro e w1 ⟨rfl, rfl⟩
  go_wp2_with (go_at_call 44; refine hm.mono ?_; rintro e w' ⟨rfl, rfl⟩)
  go_ret
  exact ⟨rfl, hB1⟩
end Go.Proofs.YtmgcaohpbaiiaaaGreatDoor
