/-
  No cell of these rows narrows 'for every input' (looked for: loops, veiled, ifaces, maps, wideKeys, modest, calm, conditions, laid).
  DERIVED. THE GIVEN ROWS OF THIS SEAT. 4 by the template 'for every input the law returns true; each argument reads behind the call as it read before'; 0 by the template 'total and deterministic' (their statements: YtdoankamaobkoaaGreatTotals.lean).
  GIVEN WITH THE SEED: the statements are not yours to turn. If you find one false, say at which input.
  Laid BY PROGRAM, IN A SANDBOX (cutbox-rows.mjs): the forced cells as the released guide's own fill.sh prints them over the translation 8650bfc4e29f9a80… (all of the seat's roots in one cut). By AI agents, Wed Nov 11 2026. No macro, syntax, notation, axiom, sorry.
-/
import Derived.Test.YtdoankamaobkoaaGreatChecked
import GoSem.Claim
import GoSem.ClaimJoined
import GoSem.ClaimMapViews
import Derived.JoinedTies
import Derived.KernelRfl
namespace Go.Proofs.YtdoankamaobkoaaGreat
/- THE CELL 'sum', in the pinned program and in every row, IS THE sha256 OF THE DUMP (.gsa) THAT YtdoankamaobkoaaGreatProg.lean LOADS. Nothing in Lean hashes anything: it is a label: what it is worth is what the hold of that sum in a sandbox is worth. -/
noncomputable def Tryz.pinned : Pinned := { name := "ytdoankamaobkoaagreat", sum := "8650bfc4e29f9a80ce5bdfcbe9b8e4bf941927726be98c54a08e1dbd2cd8302d", checked := Tryz.checked }
namespace Rows
def none {H : Type} : Left H := { results := [], args := [] }

/-- 'aumbrylaw11.PagerUndo': WHATEVER THE INPUT: true; the input reads as it did. -/
def pagerUndoSpec : ChangeSpec := { name := "pagerUndo", fn := fun _ => fun
  | [d1, d2] => { results := [.lit (.bool true)], args := [d1, d2] }
  | _ => none }
def pagerUndoRow : OpenClaim := { program := "ytdoankamaobkoaagreat", sum := "8650bfc4e29f9a80ce5bdfcbe9b8e4bf941927726be98c54a08e1dbd2cd8302d", func := "aumbry/aumbrylaw11.PagerUndo", spec := "pagerUndo", inPlace := ["internal/abi.NoEscape", "internal/bytealg.MakeNoZero"], unfollowed := true, recurses := true, apart := false }
def PagerUndoSaid : Prop := pagerUndoRow.holds Tryz.pinned (OpenSpec.ofChange pagerUndoSpec)

/-- ITS FALSE NEIGHBOUR: 'it returns false'. Refute it at one input. -/
def pagerUndoWrong : ChangeSpec := { name := "pagerUndo", fn := fun _ => fun
  | [d1, d2] => { results := [.lit (.bool false)], args := [d1, d2] }
  | _ => none }
def PagerUndoWrongFalsely : Prop := pagerUndoRow.holds Tryz.pinned (OpenSpec.ofChange pagerUndoWrong)

/-- 'aumbrylaw11.PagerNil': WHATEVER THE INPUT: true; the input reads as it did. -/
def pagerNilSpec : ChangeSpec := { name := "pagerNil", fn := fun _ => fun
  | [d1, d2, d3] => { results := [.lit (.bool true)], args := [d1, d2, d3] }
  | _ => none }
def pagerNilRow : OpenClaim := { program := "ytdoankamaobkoaagreat", sum := "8650bfc4e29f9a80ce5bdfcbe9b8e4bf941927726be98c54a08e1dbd2cd8302d", func := "aumbry/aumbrylaw11.PagerNil", spec := "pagerNil", inPlace := ["internal/abi.NoEscape", "internal/bytealg.MakeNoZero"], unfollowed := true, recurses := true, apart := false }
def PagerNilSaid : Prop := pagerNilRow.holds Tryz.pinned (OpenSpec.ofChange pagerNilSpec)

/-- ITS FALSE NEIGHBOUR: 'it returns false'. Refute it at one input. -/
def pagerNilWrong : ChangeSpec := { name := "pagerNil", fn := fun _ => fun
  | [d1, d2, d3] => { results := [.lit (.bool false)], args := [d1, d2, d3] }
  | _ => none }
def PagerNilWrongFalsely : Prop := pagerNilRow.holds Tryz.pinned (OpenSpec.ofChange pagerNilWrong)

/-- 'aumbrylaw11.PagerSees': WHATEVER THE INPUT: true; the input reads as it did. -/
def pagerSeesSpec : ChangeSpec := { name := "pagerSees", fn := fun _ => fun
  | [d1, d2] => { results := [.lit (.bool true)], args := [d1, d2] }
  | _ => none }
def pagerSeesRow : OpenClaim := { program := "ytdoankamaobkoaagreat", sum := "8650bfc4e29f9a80ce5bdfcbe9b8e4bf941927726be98c54a08e1dbd2cd8302d", func := "aumbry/aumbrylaw11.PagerSees", spec := "pagerSees", inPlace := ["internal/abi.NoEscape", "internal/bytealg.MakeNoZero"], unfollowed := true, recurses := true, apart := false }
def PagerSeesSaid : Prop := pagerSeesRow.holds Tryz.pinned (OpenSpec.ofChange pagerSeesSpec)

/-- ITS FALSE NEIGHBOUR: 'it returns false'. Refute it at one input. -/
def pagerSeesWrong : ChangeSpec := { name := "pagerSees", fn := fun _ => fun
  | [d1, d2] => { results := [.lit (.bool false)], args := [d1, d2] }
  | _ => none }
def PagerSeesWrongFalsely : Prop := pagerSeesRow.holds Tryz.pinned (OpenSpec.ofChange pagerSeesWrong)

/-- 'aumbrylaw11.PagerPlays': WHATEVER THE INPUT: true; the input reads as it did. -/
def pagerPlaysSpec : ChangeSpec := { name := "pagerPlays", fn := fun _ => fun
  | [d1, d2] => { results := [.lit (.bool true)], args := [d1, d2] }
  | _ => none }
def pagerPlaysRow : OpenClaim := { program := "ytdoankamaobkoaagreat", sum := "8650bfc4e29f9a80ce5bdfcbe9b8e4bf941927726be98c54a08e1dbd2cd8302d", func := "aumbry/aumbrylaw11.PagerPlays", spec := "pagerPlays", inPlace := ["internal/abi.NoEscape", "internal/bytealg.MakeNoZero"], unfollowed := true, recurses := true, apart := false }
def PagerPlaysSaid : Prop := pagerPlaysRow.holds Tryz.pinned (OpenSpec.ofChange pagerPlaysSpec)

/-- ITS FALSE NEIGHBOUR: 'it returns false'. Refute it at one input. -/
def pagerPlaysWrong : ChangeSpec := { name := "pagerPlays", fn := fun _ => fun
  | [d1, d2] => { results := [.lit (.bool false)], args := [d1, d2] }
  | _ => none }
def PagerPlaysWrongFalsely : Prop := pagerPlaysRow.holds Tryz.pinned (OpenSpec.ofChange pagerPlaysWrong)

/- THE SECOND FORM. 'bulk': how many values and letters a reading holds, each counted each time it is reached (what is shared counts as often as it is met; a slice's spare places count too). A statement '..UptoSaid' is the law's where the arguments, and the package variables that the reading takes, are together of bulk at most 1048576: NARROWER than '..Said'. Prove '..Said' where nothing that the law and all that it calls make is longer than what came in: it says more and counts as full. Else prove '..UptoSaid'. A law counts once. -/
mutual
def uptoBulk {H : Type} : DataW H → Nat
  | .lit (.string bytes) => bytes.length + 1
  | .lit _ => 1
  | .nil => 1
  | .ptr d => uptoBulk d + 1
  | .slice elems spare => uptoBulkAll elems + uptoBulkAll spare + 1
  | .agg parts => uptoBulkAll parts + 1
  | .iface _ d => uptoBulk d + 1
  | .map entries => uptoBulkEntries entries + 1
  | .held _ => 1
def uptoBulkAll {H : Type} : List (DataW H) → Nat
  | [] => 0
  | d :: r => uptoBulk d + uptoBulkAll r
def uptoBulkEntries {H : Type} : List (Lit × DataW H) → Nat
  | [] => 0
  | x :: r => uptoBulkEntry x + uptoBulkEntries r
def uptoBulkEntry {H : Type} : Lit × DataW H → Nat
  | (.string bytes, d) => bytes.length + uptoBulk d + 1
  | (_, d) => uptoBulk d + 1
 end
def uptoSmall : (H : Type) → List (DataW H) → Bool := fun _ ds => decide (uptoBulkAll ds ≤ 1048576)
def OpenSpec.upto (s : _root_.Go.ChangeSpec) : _root_.Go.OpenSpec := { _root_.Go.OpenSpec.ofChange s with cond := some uptoSmall }

/-- 'aumbrylaw11.PagerUndo', WHERE WHAT IT READS IS OF BULK AT MOST 1048576: true; the input reads as it did. -/
def pagerUndoUptoRow : OpenClaim := { program := "ytdoankamaobkoaagreat", sum := "8650bfc4e29f9a80ce5bdfcbe9b8e4bf941927726be98c54a08e1dbd2cd8302d", func := "aumbry/aumbrylaw11.PagerUndo", spec := "pagerUndo", inPlace := ["internal/abi.NoEscape", "internal/bytealg.MakeNoZero"], unfollowed := true, recurses := true, apart := false, narrowed := true }
def PagerUndoUptoSaid : Prop := pagerUndoUptoRow.holds Tryz.pinned (OpenSpec.upto pagerUndoSpec)

/-- 'aumbrylaw11.PagerNil', WHERE WHAT IT READS IS OF BULK AT MOST 1048576: true; the input reads as it did. -/
def pagerNilUptoRow : OpenClaim := { program := "ytdoankamaobkoaagreat", sum := "8650bfc4e29f9a80ce5bdfcbe9b8e4bf941927726be98c54a08e1dbd2cd8302d", func := "aumbry/aumbrylaw11.PagerNil", spec := "pagerNil", inPlace := ["internal/abi.NoEscape", "internal/bytealg.MakeNoZero"], unfollowed := true, recurses := true, apart := false, narrowed := true }
def PagerNilUptoSaid : Prop := pagerNilUptoRow.holds Tryz.pinned (OpenSpec.upto pagerNilSpec)

/-- 'aumbrylaw11.PagerSees', WHERE WHAT IT READS IS OF BULK AT MOST 1048576: true; the input reads as it did. -/
def pagerSeesUptoRow : OpenClaim := { program := "ytdoankamaobkoaagreat", sum := "8650bfc4e29f9a80ce5bdfcbe9b8e4bf941927726be98c54a08e1dbd2cd8302d", func := "aumbry/aumbrylaw11.PagerSees", spec := "pagerSees", inPlace := ["internal/abi.NoEscape", "internal/bytealg.MakeNoZero"], unfollowed := true, recurses := true, apart := false, narrowed := true }
def PagerSeesUptoSaid : Prop := pagerSeesUptoRow.holds Tryz.pinned (OpenSpec.upto pagerSeesSpec)

/-- 'aumbrylaw11.PagerPlays', WHERE WHAT IT READS IS OF BULK AT MOST 1048576: true; the input reads as it did. -/
def pagerPlaysUptoRow : OpenClaim := { program := "ytdoankamaobkoaagreat", sum := "8650bfc4e29f9a80ce5bdfcbe9b8e4bf941927726be98c54a08e1dbd2cd8302d", func := "aumbry/aumbrylaw11.PagerPlays", spec := "pagerPlays", inPlace := ["internal/abi.NoEscape", "internal/bytealg.MakeNoZero"], unfollowed := true, recurses := true, apart := false, narrowed := true }
def PagerPlaysUptoSaid : Prop := pagerPlaysUptoRow.holds Tryz.pinned (OpenSpec.upto pagerPlaysSpec)

end Rows
end Go.Proofs.YtdoankamaobkoaaGreat
