/-
  NARROWER THAN 'FOR EVERY INPUT', by the rows' own cells (each row's printed sentence says how): SpaceFills: laid · SpaceLays: laid · SpacePlays: laid · SpaceNil: laid · SpaceCrash: laid.
  DERIVED. THE GIVEN ROWS OF THIS SEAT. 5 by the template 'for every input the law returns true; each argument reads behind the call as it read before'; 0 by the template 'total and deterministic' (their statements: YtdoankamaobkoaaGreatDoorTotals.lean).
  GIVEN WITH THE SEED: the statements are not yours to turn. If you find one false, say at which input.
  Laid BY PROGRAM, IN A SANDBOX (cutbox-rows.mjs): the forced cells as the released guide's own fill.sh prints them over the translation 2bddfb9b3a80a942… (all of the seat's roots in one cut). By AI agents, Wed Nov 11 2026. No macro, syntax, notation, axiom, sorry.
-/
import Derived.Test.YtdoankamaobkoaaGreatDoorChecked
import GoSem.Claim
import GoSem.ClaimJoined
import GoSem.ClaimMapViews
import Derived.JoinedTies
import Derived.KernelRfl
namespace Go.Proofs.YtdoankamaobkoaaGreatDoor
/- THE CELL 'sum', in the pinned program and in every row, IS THE sha256 OF THE DUMP (.gsa) THAT YtdoankamaobkoaaGreatDoorProg.lean LOADS. Nothing in Lean hashes anything: it is a label: what it is worth is what the hold of that sum in a sandbox is worth. -/
noncomputable def Tryz.pinned : Pinned := { name := "ytdoankamaobkoaagreatdoor", sum := "2bddfb9b3a80a942a28b6d35b3f12ec087103c3160d104b0b59daab17272f613", checked := Tryz.checked }
namespace Rows
def none {H : Type} : Left H := { results := [], args := [] }

/- WHAT THE LISTED PACKAGE-LEVEL VARIABLES READ AS WHEN THE CALL BEGINS. Each datum BY PROGRAM (the guide's laid-datum.mjs) off the statement by which the dump's own 'gosem.cut.vars' lays the variable. In a bare row this is a premise. The card (YtdoankamaobkoaaGreatDoorCards.lean) ties it to the program's text. -/
def laid_errors_errorType {H : Type} : DataW H := .iface "internal/reflectlite.rtype" (.agg [.ptr (.lit (.string [101, 114, 114, 111, 114]))])

/-- 'aumbrylaw12.SpaceFills': WHATEVER THE INPUT: true; the input reads as it did. -/
def spaceFillsSpec : ChangeSpec := { name := "spaceFills", fn := fun _ => fun
  | [d1, d2] => { results := [.lit (.bool true)], args := [d1, d2] }
  | _ => none }
def spaceFillsRow : OpenClaim := { program := "ytdoankamaobkoaagreatdoor", sum := "2bddfb9b3a80a942a28b6d35b3f12ec087103c3160d104b0b59daab17272f613", func := "aumbry/aumbrylaw12.SpaceFills", spec := "spaceFills", inPlace := ["internal/abi.NoEscape", "internal/bytealg.MakeNoZero", "internal/reflectlite.TypeOf", "internal/reflectlite.ValueOf", "(internal/reflectlite.Value).Type", "(internal/reflectlite.Value).IsNil", "(internal/reflectlite.Value).Elem", "(internal/reflectlite.Value).Set"], unfollowed := true, recurses := true, named := ["errors.errorType"], apart := false, laid := [("errors.errorType", laid_errors_errorType)] }
def SpaceFillsSaid : Prop := spaceFillsRow.holds Tryz.pinned (OpenSpec.ofChange spaceFillsSpec)

/-- ITS FALSE NEIGHBOUR: 'it returns false'. Refute it at one input. -/
def spaceFillsWrong : ChangeSpec := { name := "spaceFills", fn := fun _ => fun
  | [d1, d2] => { results := [.lit (.bool false)], args := [d1, d2] }
  | _ => none }
def SpaceFillsWrongFalsely : Prop := spaceFillsRow.holds Tryz.pinned (OpenSpec.ofChange spaceFillsWrong)

/-- 'aumbrylaw12.SpaceLays': WHATEVER THE INPUT: true; the input reads as it did. -/
def spaceLaysSpec : ChangeSpec := { name := "spaceLays", fn := fun _ => fun
  | [d1, d2] => { results := [.lit (.bool true)], args := [d1, d2] }
  | _ => none }
def spaceLaysRow : OpenClaim := { program := "ytdoankamaobkoaagreatdoor", sum := "2bddfb9b3a80a942a28b6d35b3f12ec087103c3160d104b0b59daab17272f613", func := "aumbry/aumbrylaw12.SpaceLays", spec := "spaceLays", inPlace := ["internal/abi.NoEscape", "internal/bytealg.MakeNoZero", "internal/reflectlite.TypeOf", "internal/reflectlite.ValueOf", "(internal/reflectlite.Value).Type", "(internal/reflectlite.Value).IsNil", "(internal/reflectlite.Value).Elem", "(internal/reflectlite.Value).Set"], unfollowed := true, recurses := true, named := ["errors.errorType"], apart := false, laid := [("errors.errorType", laid_errors_errorType)] }
def SpaceLaysSaid : Prop := spaceLaysRow.holds Tryz.pinned (OpenSpec.ofChange spaceLaysSpec)

/-- ITS FALSE NEIGHBOUR: 'it returns false'. Refute it at one input. -/
def spaceLaysWrong : ChangeSpec := { name := "spaceLays", fn := fun _ => fun
  | [d1, d2] => { results := [.lit (.bool false)], args := [d1, d2] }
  | _ => none }
def SpaceLaysWrongFalsely : Prop := spaceLaysRow.holds Tryz.pinned (OpenSpec.ofChange spaceLaysWrong)

/-- 'aumbrylaw12.SpacePlays': WHATEVER THE INPUT: true; the input reads as it did. -/
def spacePlaysSpec : ChangeSpec := { name := "spacePlays", fn := fun _ => fun
  | [d1, d2, d3] => { results := [.lit (.bool true)], args := [d1, d2, d3] }
  | _ => none }
def spacePlaysRow : OpenClaim := { program := "ytdoankamaobkoaagreatdoor", sum := "2bddfb9b3a80a942a28b6d35b3f12ec087103c3160d104b0b59daab17272f613", func := "aumbry/aumbrylaw12.SpacePlays", spec := "spacePlays", inPlace := ["internal/abi.NoEscape", "internal/bytealg.MakeNoZero", "internal/reflectlite.TypeOf", "internal/reflectlite.ValueOf", "(internal/reflectlite.Value).Type", "(internal/reflectlite.Value).IsNil", "(internal/reflectlite.Value).Elem", "(internal/reflectlite.Value).Set"], unfollowed := true, recurses := true, named := ["errors.errorType"], apart := false, laid := [("errors.errorType", laid_errors_errorType)] }
def SpacePlaysSaid : Prop := spacePlaysRow.holds Tryz.pinned (OpenSpec.ofChange spacePlaysSpec)

/-- ITS FALSE NEIGHBOUR: 'it returns false'. Refute it at one input. -/
def spacePlaysWrong : ChangeSpec := { name := "spacePlays", fn := fun _ => fun
  | [d1, d2, d3] => { results := [.lit (.bool false)], args := [d1, d2, d3] }
  | _ => none }
def SpacePlaysWrongFalsely : Prop := spacePlaysRow.holds Tryz.pinned (OpenSpec.ofChange spacePlaysWrong)

/-- 'aumbrylaw12.SpaceNil': WHATEVER THE INPUT: true; the input reads as it did. -/
def spaceNilSpec : ChangeSpec := { name := "spaceNil", fn := fun _ => fun
  | [d1, d2, d3] => { results := [.lit (.bool true)], args := [d1, d2, d3] }
  | _ => none }
def spaceNilRow : OpenClaim := { program := "ytdoankamaobkoaagreatdoor", sum := "2bddfb9b3a80a942a28b6d35b3f12ec087103c3160d104b0b59daab17272f613", func := "aumbry/aumbrylaw12.SpaceNil", spec := "spaceNil", inPlace := ["internal/abi.NoEscape", "internal/bytealg.MakeNoZero", "internal/reflectlite.TypeOf", "internal/reflectlite.ValueOf", "(internal/reflectlite.Value).Type", "(internal/reflectlite.Value).IsNil", "(internal/reflectlite.Value).Elem", "(internal/reflectlite.Value).Set"], unfollowed := true, recurses := true, named := ["errors.errorType"], apart := false, laid := [("errors.errorType", laid_errors_errorType)] }
def SpaceNilSaid : Prop := spaceNilRow.holds Tryz.pinned (OpenSpec.ofChange spaceNilSpec)

/-- ITS FALSE NEIGHBOUR: 'it returns false'. Refute it at one input. -/
def spaceNilWrong : ChangeSpec := { name := "spaceNil", fn := fun _ => fun
  | [d1, d2, d3] => { results := [.lit (.bool false)], args := [d1, d2, d3] }
  | _ => none }
def SpaceNilWrongFalsely : Prop := spaceNilRow.holds Tryz.pinned (OpenSpec.ofChange spaceNilWrong)

/-- 'aumbrylaw12.SpaceCrash': WHATEVER THE INPUT: true; the input reads as it did. -/
def spaceCrashSpec : ChangeSpec := { name := "spaceCrash", fn := fun _ => fun
  | [d1, d2, d3] => { results := [.lit (.bool true)], args := [d1, d2, d3] }
  | _ => none }
def spaceCrashRow : OpenClaim := { program := "ytdoankamaobkoaagreatdoor", sum := "2bddfb9b3a80a942a28b6d35b3f12ec087103c3160d104b0b59daab17272f613", func := "aumbry/aumbrylaw12.SpaceCrash", spec := "spaceCrash", inPlace := ["internal/abi.NoEscape", "internal/bytealg.MakeNoZero", "internal/reflectlite.TypeOf", "internal/reflectlite.ValueOf", "(internal/reflectlite.Value).Type", "(internal/reflectlite.Value).IsNil", "(internal/reflectlite.Value).Elem", "(internal/reflectlite.Value).Set"], unfollowed := true, recurses := true, named := ["errors.errorType"], apart := false, laid := [("errors.errorType", laid_errors_errorType)] }
def SpaceCrashSaid : Prop := spaceCrashRow.holds Tryz.pinned (OpenSpec.ofChange spaceCrashSpec)

/-- ITS FALSE NEIGHBOUR: 'it returns false'. Refute it at one input. -/
def spaceCrashWrong : ChangeSpec := { name := "spaceCrash", fn := fun _ => fun
  | [d1, d2, d3] => { results := [.lit (.bool false)], args := [d1, d2, d3] }
  | _ => none }
def SpaceCrashWrongFalsely : Prop := spaceCrashRow.holds Tryz.pinned (OpenSpec.ofChange spaceCrashWrong)

/- THE SECOND FORM. 'bulk': how many values and letters a reading holds, each counted each time it is reached (what is shared counts as often as it is met; a slice's spare places count too). A statement '..UptoSaid' is the law's where the arguments, and the package variables that the reading takes, are together of bulk at most 1048576: NARROWER than '..Said'. Prove '..Said' where nothing that the law and all that it calls make is longer than what came in: it says more and counts as full. Else prove '..UptoSaid'. A law counts once. -/
mutual
def uptoBulk {H : Type} : DataW H → Nat
  | .lit (.string bytes) => bytes.length + 1
  | .lit _ => 1
  | .nil => 1
  | .ptr d => uptoBulk d + 1
  | .slice elems spare => uptoBulkAll elems + uptoBulkAll spare + 1
  | .agg parts => uptoBulkAll parts + 1
  | .iface _ d => uptoBulk d + 1
  | .map entries => uptoBulkEntries entries + 1
  | .held _ => 1
def uptoBulkAll {H : Type} : List (DataW H) → Nat
  | [] => 0
  | d :: r => uptoBulk d + uptoBulkAll r
def uptoBulkEntries {H : Type} : List (Lit × DataW H) → Nat
  | [] => 0
  | x :: r => uptoBulkEntry x + uptoBulkEntries r
def uptoBulkEntry {H : Type} : Lit × DataW H → Nat
  | (.string bytes, d) => bytes.length + uptoBulk d + 1
  | (_, d) => uptoBulk d + 1
 end
def uptoSmall : (H : Type) → List (DataW H) → Bool := fun _ ds => decide (uptoBulkAll ds ≤ 1048576)
def OpenSpec.upto (s : _root_.Go.ChangeSpec) : _root_.Go.OpenSpec := { _root_.Go.OpenSpec.ofChange s with cond := some uptoSmall }

/-- 'aumbrylaw12.SpaceFills', WHERE WHAT IT READS IS OF BULK AT MOST 1048576: true; the input reads as it did. -/
def spaceFillsUptoRow : OpenClaim := { program := "ytdoankamaobkoaagreatdoor", sum := "2bddfb9b3a80a942a28b6d35b3f12ec087103c3160d104b0b59daab17272f613", func := "aumbry/aumbrylaw12.SpaceFills", spec := "spaceFills", inPlace := ["internal/abi.NoEscape", "internal/bytealg.MakeNoZero", "internal/reflectlite.TypeOf", "internal/reflectlite.ValueOf", "(internal/reflectlite.Value).Type", "(internal/reflectlite.Value).IsNil", "(internal/reflectlite.Value).Elem", "(internal/reflectlite.Value).Set"], unfollowed := true, recurses := true, named := ["errors.errorType"], apart := false, laid := [("errors.errorType", laid_errors_errorType)], narrowed := true }
def SpaceFillsUptoSaid : Prop := spaceFillsUptoRow.holds Tryz.pinned (OpenSpec.upto spaceFillsSpec)

/-- 'aumbrylaw12.SpaceLays', WHERE WHAT IT READS IS OF BULK AT MOST 1048576: true; the input reads as it did. -/
def spaceLaysUptoRow : OpenClaim := { program := "ytdoankamaobkoaagreatdoor", sum := "2bddfb9b3a80a942a28b6d35b3f12ec087103c3160d104b0b59daab17272f613", func := "aumbry/aumbrylaw12.SpaceLays", spec := "spaceLays", inPlace := ["internal/abi.NoEscape", "internal/bytealg.MakeNoZero", "internal/reflectlite.TypeOf", "internal/reflectlite.ValueOf", "(internal/reflectlite.Value).Type", "(internal/reflectlite.Value).IsNil", "(internal/reflectlite.Value).Elem", "(internal/reflectlite.Value).Set"], unfollowed := true, recurses := true, named := ["errors.errorType"], apart := false, laid := [("errors.errorType", laid_errors_errorType)], narrowed := true }
def SpaceLaysUptoSaid : Prop := spaceLaysUptoRow.holds Tryz.pinned (OpenSpec.upto spaceLaysSpec)

/-- 'aumbrylaw12.SpacePlays', WHERE WHAT IT READS IS OF BULK AT MOST 1048576: true; the input reads as it did. -/
def spacePlaysUptoRow : OpenClaim := { program := "ytdoankamaobkoaagreatdoor", sum := "2bddfb9b3a80a942a28b6d35b3f12ec087103c3160d104b0b59daab17272f613", func := "aumbry/aumbrylaw12.SpacePlays", spec := "spacePlays", inPlace := ["internal/abi.NoEscape", "internal/bytealg.MakeNoZero", "internal/reflectlite.TypeOf", "internal/reflectlite.ValueOf", "(internal/reflectlite.Value).Type", "(internal/reflectlite.Value).IsNil", "(internal/reflectlite.Value).Elem", "(internal/reflectlite.Value).Set"], unfollowed := true, recurses := true, named := ["errors.errorType"], apart := false, laid := [("errors.errorType", laid_errors_errorType)], narrowed := true }
def SpacePlaysUptoSaid : Prop := spacePlaysUptoRow.holds Tryz.pinned (OpenSpec.upto spacePlaysSpec)

/-- 'aumbrylaw12.SpaceNil', WHERE WHAT IT READS IS OF BULK AT MOST 1048576: true; the input reads as it did. -/
def spaceNilUptoRow : OpenClaim := { program := "ytdoankamaobkoaagreatdoor", sum := "2bddfb9b3a80a942a28b6d35b3f12ec087103c3160d104b0b59daab17272f613", func := "aumbry/aumbrylaw12.SpaceNil", spec := "spaceNil", inPlace := ["internal/abi.NoEscape", "internal/bytealg.MakeNoZero", "internal/reflectlite.TypeOf", "internal/reflectlite.ValueOf", "(internal/reflectlite.Value).Type", "(internal/reflectlite.Value).IsNil", "(internal/reflectlite.Value).Elem", "(internal/reflectlite.Value).Set"], unfollowed := true, recurses := true, named := ["errors.errorType"], apart := false, laid := [("errors.errorType", laid_errors_errorType)], narrowed := true }
def SpaceNilUptoSaid : Prop := spaceNilUptoRow.holds Tryz.pinned (OpenSpec.upto spaceNilSpec)

/-- 'aumbrylaw12.SpaceCrash', WHERE WHAT IT READS IS OF BULK AT MOST 1048576: true; the input reads as it did. -/
def spaceCrashUptoRow : OpenClaim := { program := "ytdoankamaobkoaagreatdoor", sum := "2bddfb9b3a80a942a28b6d35b3f12ec087103c3160d104b0b59daab17272f613", func := "aumbry/aumbrylaw12.SpaceCrash", spec := "spaceCrash", inPlace := ["internal/abi.NoEscape", "internal/bytealg.MakeNoZero", "internal/reflectlite.TypeOf", "internal/reflectlite.ValueOf", "(internal/reflectlite.Value).Type", "(internal/reflectlite.Value).IsNil", "(internal/reflectlite.Value).Elem", "(internal/reflectlite.Value).Set"], unfollowed := true, recurses := true, named := ["errors.errorType"], apart := false, laid := [("errors.errorType", laid_errors_errorType)], narrowed := true }
def SpaceCrashUptoSaid : Prop := spaceCrashUptoRow.holds Tryz.pinned (OpenSpec.upto spaceCrashSpec)

end Rows
end Go.Proofs.YtdoankamaobkoaaGreatDoor
