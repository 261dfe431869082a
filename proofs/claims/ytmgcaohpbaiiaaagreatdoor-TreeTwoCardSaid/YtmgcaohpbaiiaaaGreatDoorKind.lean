/- kind: a number modulo another. -/
import Derived.Test.YtmgcaohpbaiiaaaGreatDoorP2
import Derived.Laws.Bits64
set_option linter.unusedSimpArgs false
set_option linter.unusedVariables false
namespace Go.Proofs.YtmgcaohpbaiiaaaGreatDoor
open Go.RowKit Go.Maps Go.Shelf

def kindI (k n : Int) : Int := k % 18446744073709551616 % n
theorem kindI_bd {k n : Int} (h : 0 < n) : 0 ≤ kindI k n ∧ kindI k n < n := ⟨Int.emod_nonneg _ (by omega), Int.emod_lt_of_pos _ h⟩
set_option maxHeartbeats 400000 in
theorem kind_any (k n : Int) (w : World) (hk : (Lit.int .i64 k).wf = true) (h1 : 0 < n) (h2 : n ≤ 100) :
    Calls Tryz.prog 30 #[.int .i64 k, .int .i64 n] w fun e w' => e = .returned (.int .i64 (kindI k n)) ∧ w = w' := by
  go_enter Tryz.func30, Tryz.ntmps30
  go_wp2
  go_ret
  have hbd := kindI_bd (k := k) h1
  have e1 : (IntKind.u64.wrap k).tmod n = kindI k n := by
    rw [IntKind.wrap_u64]; unfold kindI
    exact Int.tmod_eq_emod_of_nonneg (Int.emod_nonneg _ (by decide))
  have e2 : wrap64 (kindI k n) = kindI k n := IntWalk.wrap64_in _ (by omega)
  exact ⟨congrArg (fun z => Ending.returned (Value.int IntKind.i64 z)) (show wrap64 ((IntKind.u64.wrap k).tmod n) = _ by rw [e1, e2]), rfl⟩

theorem u8_bd {n : Int} (h : (Lit.int .u8 n).wf = true) : 0 ≤ n ∧ n ≤ 255 := by
  have h1 : IntKind.u8.min = 0 := rfl
  have h2 : IntKind.u8.max = 255 := rfl
  have h3 : (decide (IntKind.u8.min ≤ n) && decide (n ≤ IntKind.u8.max)) = true := h
  rw [h1, h2] at h3
  simpa using h3

/-- a slice of bytes that came in: each element is a cell of what was there -/
def RowU8 (w : World) (a : Option Addr) (len : Nat) (z : List Int) : Prop :=
  ∀ i, i < len → ∃ b off, a = some ⟨b, off, none⟩ ∧ b < w.heap.size ∧ w.cell? ⟨b, off + i, none⟩ = some (.int .u8 (z.getD i 0)) ∧ 0 ≤ z.getD i 0 ∧ z.getD i 0 ≤ 255

end Go.Proofs.YtmgcaohpbaiiaaaGreatDoor
