/-
  DERIVED. GIVEN WITH THE SEED: THE CARDS: each row of YtdoankamaobkoaaGreatDoorRows.lean that lists a variable, with what it lists TIED to the program's text (the seventh form; the later family's looks); each row that meets fmt, with fmt's text TOLD by the authors' own Lean function (tested against real Go, not proved from fmt's source: count such statements apart). THE CARD IS WHAT COUNTS. Prove the row's statement (the work); the ties are given (YtdoankamaobkoaaGreatDoorTie.lean); close each card by the builder's one call (the guide's Derived/Test/ToyasCard.lean, 'card_holds'). Laid BY PROGRAM, IN A SANDBOX (cutbox-door.mjs). By AI agents, Wed Nov 11 2026. No macro, syntax, notation, axiom, sorry.
-/
import Derived.Test.YtdoankamaobkoaaGreatDoorRows
import GoSem.ClaimSeven
namespace Go.Proofs.YtdoankamaobkoaaGreatDoor
namespace Rows

/-- THE TIED CARD OF 'aumbrylaw12.SpaceFills'. -/
def spaceFillsCard : Claim7 := { stood := { row := spaceFillsRow, standIns := [], harness := (true, "1d70baebc159953ce301c985bd630232f855a020e79ce85f719cf3a528b98e83"), looks := true }, kinds := [], alts := [], laidByText := true, laidKinds := [.handle], laidTests := true, laidLooks := .later }
def SpaceFillsCardSaid : Prop := Claim7.holds Tryz.pinned (.plain (OpenSpec.ofChange spaceFillsSpec)) spaceFillsCard

/-- THE TIED CARD OF 'aumbrylaw12.SpaceLays'. -/
def spaceLaysCard : Claim7 := { stood := { row := spaceLaysRow, standIns := [], harness := (true, "1d70baebc159953ce301c985bd630232f855a020e79ce85f719cf3a528b98e83"), looks := true }, kinds := [], alts := [], laidByText := true, laidKinds := [.handle], laidTests := true, laidLooks := .later }
def SpaceLaysCardSaid : Prop := Claim7.holds Tryz.pinned (.plain (OpenSpec.ofChange spaceLaysSpec)) spaceLaysCard

/-- THE TIED CARD OF 'aumbrylaw12.SpacePlays'. -/
def spacePlaysCard : Claim7 := { stood := { row := spacePlaysRow, standIns := [], harness := (true, "1d70baebc159953ce301c985bd630232f855a020e79ce85f719cf3a528b98e83"), looks := true }, kinds := [], alts := [], laidByText := true, laidKinds := [.handle], laidTests := true, laidLooks := .later }
def SpacePlaysCardSaid : Prop := Claim7.holds Tryz.pinned (.plain (OpenSpec.ofChange spacePlaysSpec)) spacePlaysCard

/-- THE TIED CARD OF 'aumbrylaw12.SpaceNil'. -/
def spaceNilCard : Claim7 := { stood := { row := spaceNilRow, standIns := [], harness := (true, "1d70baebc159953ce301c985bd630232f855a020e79ce85f719cf3a528b98e83"), looks := true }, kinds := [], alts := [], laidByText := true, laidKinds := [.handle], laidTests := true, laidLooks := .later }
def SpaceNilCardSaid : Prop := Claim7.holds Tryz.pinned (.plain (OpenSpec.ofChange spaceNilSpec)) spaceNilCard

/-- THE TIED CARD OF 'aumbrylaw12.SpaceCrash'. -/
def spaceCrashCard : Claim7 := { stood := { row := spaceCrashRow, standIns := [], harness := (true, "1d70baebc159953ce301c985bd630232f855a020e79ce85f719cf3a528b98e83"), looks := true }, kinds := [], alts := [], laidByText := true, laidKinds := [.handle], laidTests := true, laidLooks := .later }
def SpaceCrashCardSaid : Prop := Claim7.holds Tryz.pinned (.plain (OpenSpec.ofChange spaceCrashSpec)) spaceCrashCard

/-- THE SECOND FORM's CARD OF 'aumbrylaw12.SpaceFills'. -/
def spaceFillsUptoCard : Claim7 := { stood := { row := spaceFillsUptoRow, standIns := [], harness := (true, "1d70baebc159953ce301c985bd630232f855a020e79ce85f719cf3a528b98e83"), looks := true }, kinds := [], alts := [], laidByText := true, laidKinds := [.handle], laidTests := true, laidLooks := .later }
def SpaceFillsUptoCardSaid : Prop := Claim7.holds Tryz.pinned (.plain (OpenSpec.upto spaceFillsSpec)) spaceFillsUptoCard

/-- THE SECOND FORM's CARD OF 'aumbrylaw12.SpaceLays'. -/
def spaceLaysUptoCard : Claim7 := { stood := { row := spaceLaysUptoRow, standIns := [], harness := (true, "1d70baebc159953ce301c985bd630232f855a020e79ce85f719cf3a528b98e83"), looks := true }, kinds := [], alts := [], laidByText := true, laidKinds := [.handle], laidTests := true, laidLooks := .later }
def SpaceLaysUptoCardSaid : Prop := Claim7.holds Tryz.pinned (.plain (OpenSpec.upto spaceLaysSpec)) spaceLaysUptoCard

/-- THE SECOND FORM's CARD OF 'aumbrylaw12.SpacePlays'. -/
def spacePlaysUptoCard : Claim7 := { stood := { row := spacePlaysUptoRow, standIns := [], harness := (true, "1d70baebc159953ce301c985bd630232f855a020e79ce85f719cf3a528b98e83"), looks := true }, kinds := [], alts := [], laidByText := true, laidKinds := [.handle], laidTests := true, laidLooks := .later }
def SpacePlaysUptoCardSaid : Prop := Claim7.holds Tryz.pinned (.plain (OpenSpec.upto spacePlaysSpec)) spacePlaysUptoCard

/-- THE SECOND FORM's CARD OF 'aumbrylaw12.SpaceNil'. -/
def spaceNilUptoCard : Claim7 := { stood := { row := spaceNilUptoRow, standIns := [], harness := (true, "1d70baebc159953ce301c985bd630232f855a020e79ce85f719cf3a528b98e83"), looks := true }, kinds := [], alts := [], laidByText := true, laidKinds := [.handle], laidTests := true, laidLooks := .later }
def SpaceNilUptoCardSaid : Prop := Claim7.holds Tryz.pinned (.plain (OpenSpec.upto spaceNilSpec)) spaceNilUptoCard

/-- THE SECOND FORM's CARD OF 'aumbrylaw12.SpaceCrash'. -/
def spaceCrashUptoCard : Claim7 := { stood := { row := spaceCrashUptoRow, standIns := [], harness := (true, "1d70baebc159953ce301c985bd630232f855a020e79ce85f719cf3a528b98e83"), looks := true }, kinds := [], alts := [], laidByText := true, laidKinds := [.handle], laidTests := true, laidLooks := .later }
def SpaceCrashUptoCardSaid : Prop := Claim7.holds Tryz.pinned (.plain (OpenSpec.upto spaceCrashSpec)) spaceCrashUptoCard
end Rows
end Go.Proofs.YtdoankamaobkoaaGreatDoor
