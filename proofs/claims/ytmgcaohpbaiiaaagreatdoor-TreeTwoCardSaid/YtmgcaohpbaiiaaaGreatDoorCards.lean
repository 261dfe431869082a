/-
  DERIVED. GIVEN WITH THE SEED: THE CARDS: each row of YtmgcaohpbaiiaaaGreatDoorRows.lean that lists a variable, with what it lists TIED to the program's text (the seventh form; the later family's looks); each row that meets fmt, with fmt's text TOLD by the authors' own Lean function (tested against real Go, not proved from fmt's source: count such statements apart). THE CARD IS WHAT COUNTS. Prove the row's statement (the work); the ties are given (YtmgcaohpbaiiaaaGreatDoorTie.lean); close each card by the builder's one call (the guide's Derived/Test/ToyasCard.lean, 'card_holds'). Laid BY PROGRAM, IN A SANDBOX (cutbox-door.mjs). By AI agents, Wed Nov 11 2026. No macro, syntax, notation, axiom, sorry.
-/
import Derived.Test.YtmgcaohpbaiiaaaGreatDoorRows
import GoSem.ClaimSeven
namespace Go.Proofs.YtmgcaohpbaiiaaaGreatDoor
namespace Rows

/-- THE TIED CARD OF 'aumbrylaw14.TreePlays'. -/
def treePlaysCard : Claim7 := { stood := { row := treePlaysRow, standIns := [], harness := (true, "9ed2ce84a741cd22ecc07dd07f7b46b3f1cf5efda6bd847d04446ee8da1bfe25"), looks := true }, kinds := [], alts := [], laidByText := true, laidKinds := [.handle], laidTests := true, laidLooks := .later }
def TreePlaysCardSaid : Prop := Claim7.holds Tryz.pinned (.plain (OpenSpec.ofChange treePlaysSpec)) treePlaysCard

/-- THE TIED CARD OF 'aumbrylaw14.TreeNil'. -/
def treeNilCard : Claim7 := { stood := { row := treeNilRow, standIns := [], harness := (true, "9ed2ce84a741cd22ecc07dd07f7b46b3f1cf5efda6bd847d04446ee8da1bfe25"), looks := true }, kinds := [], alts := [], laidByText := true, laidKinds := [.handle], laidTests := true, laidLooks := .later }
def TreeNilCardSaid : Prop := Claim7.holds Tryz.pinned (.plain (OpenSpec.ofChange treeNilSpec)) treeNilCard

/-- THE TIED CARD OF 'aumbrylaw14.TreeShape'. -/
def treeShapeCard : Claim7 := { stood := { row := treeShapeRow, standIns := [], harness := (true, "9ed2ce84a741cd22ecc07dd07f7b46b3f1cf5efda6bd847d04446ee8da1bfe25"), looks := true }, kinds := [], alts := [], laidByText := true, laidKinds := [.handle], laidTests := true, laidLooks := .later }
def TreeShapeCardSaid : Prop := Claim7.holds Tryz.pinned (.plain (OpenSpec.ofChange treeShapeSpec)) treeShapeCard

/-- THE TIED CARD OF 'aumbrylaw14.TreeEmpties'. -/
def treeEmptiesCard : Claim7 := { stood := { row := treeEmptiesRow, standIns := [], harness := (true, "9ed2ce84a741cd22ecc07dd07f7b46b3f1cf5efda6bd847d04446ee8da1bfe25"), looks := true }, kinds := [], alts := [], laidByText := true, laidKinds := [.handle], laidTests := true, laidLooks := .later }
def TreeEmptiesCardSaid : Prop := Claim7.holds Tryz.pinned (.plain (OpenSpec.ofChange treeEmptiesSpec)) treeEmptiesCard

/-- THE TIED CARD OF 'aumbrylaw14.TreeTwo'. -/
def treeTwoCard : Claim7 := { stood := { row := treeTwoRow, standIns := [], harness := (true, "9ed2ce84a741cd22ecc07dd07f7b46b3f1cf5efda6bd847d04446ee8da1bfe25"), looks := true }, kinds := [], alts := [], laidByText := true, laidKinds := [.handle], laidTests := true, laidLooks := .later }
def TreeTwoCardSaid : Prop := Claim7.holds Tryz.pinned (.plain (OpenSpec.ofChange treeTwoSpec)) treeTwoCard

/-- THE SECOND FORM's CARD OF 'aumbrylaw14.TreePlays'. -/
def treePlaysUptoCard : Claim7 := { stood := { row := treePlaysUptoRow, standIns := [], harness := (true, "9ed2ce84a741cd22ecc07dd07f7b46b3f1cf5efda6bd847d04446ee8da1bfe25"), looks := true }, kinds := [], alts := [], laidByText := true, laidKinds := [.handle], laidTests := true, laidLooks := .later }
def TreePlaysUptoCardSaid : Prop := Claim7.holds Tryz.pinned (.plain (OpenSpec.upto treePlaysSpec)) treePlaysUptoCard

/-- THE SECOND FORM's CARD OF 'aumbrylaw14.TreeNil'. -/
def treeNilUptoCard : Claim7 := { stood := { row := treeNilUptoRow, standIns := [], harness := (true, "9ed2ce84a741cd22ecc07dd07f7b46b3f1cf5efda6bd847d04446ee8da1bfe25"), looks := true }, kinds := [], alts := [], laidByText := true, laidKinds := [.handle], laidTests := true, laidLooks := .later }
def TreeNilUptoCardSaid : Prop := Claim7.holds Tryz.pinned (.plain (OpenSpec.upto treeNilSpec)) treeNilUptoCard

/-- THE SECOND FORM's CARD OF 'aumbrylaw14.TreeShape'. -/
def treeShapeUptoCard : Claim7 := { stood := { row := treeShapeUptoRow, standIns := [], harness := (true, "9ed2ce84a741cd22ecc07dd07f7b46b3f1cf5efda6bd847d04446ee8da1bfe25"), looks := true }, kinds := [], alts := [], laidByText := true, laidKinds := [.handle], laidTests := true, laidLooks := .later }
def TreeShapeUptoCardSaid : Prop := Claim7.holds Tryz.pinned (.plain (OpenSpec.upto treeShapeSpec)) treeShapeUptoCard

/-- THE SECOND FORM's CARD OF 'aumbrylaw14.TreeEmpties'. -/
def treeEmptiesUptoCard : Claim7 := { stood := { row := treeEmptiesUptoRow, standIns := [], harness := (true, "9ed2ce84a741cd22ecc07dd07f7b46b3f1cf5efda6bd847d04446ee8da1bfe25"), looks := true }, kinds := [], alts := [], laidByText := true, laidKinds := [.handle], laidTests := true, laidLooks := .later }
def TreeEmptiesUptoCardSaid : Prop := Claim7.holds Tryz.pinned (.plain (OpenSpec.upto treeEmptiesSpec)) treeEmptiesUptoCard

/-- THE SECOND FORM's CARD OF 'aumbrylaw14.TreeTwo'. -/
def treeTwoUptoCard : Claim7 := { stood := { row := treeTwoUptoRow, standIns := [], harness := (true, "9ed2ce84a741cd22ecc07dd07f7b46b3f1cf5efda6bd847d04446ee8da1bfe25"), looks := true }, kinds := [], alts := [], laidByText := true, laidKinds := [.handle], laidTests := true, laidLooks := .later }
def TreeTwoUptoCardSaid : Prop := Claim7.holds Tryz.pinned (.plain (OpenSpec.upto treeTwoSpec)) treeTwoUptoCard
end Rows
end Go.Proofs.YtmgcaohpbaiiaaaGreatDoor
