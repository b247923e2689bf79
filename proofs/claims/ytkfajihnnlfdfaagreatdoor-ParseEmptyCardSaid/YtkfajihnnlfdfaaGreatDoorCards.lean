/-
  DERIVED. GIVEN WITH THE SEED: THE CARDS: each row of YtkfajihnnlfdfaaGreatDoorRows.lean that lists a variable, with what it lists TIED to the program's text (the seventh form; the later family's looks); each row that meets fmt, with fmt's text TOLD by the authors' own Lean function (tested against real Go, not proved from fmt's source: count such statements apart). THE CARD IS WHAT COUNTS. Prove the row's statement (the work); the ties are given (YtkfajihnnlfdfaaGreatDoorTie.lean); close each card by the builder's one call (the guide's Derived/Test/ToyasCard.lean, 'card_holds'). Laid BY PROGRAM, IN A SANDBOX (cutbox-door.mjs). By AI agents, Wed Nov 11 2026. No macro, syntax, notation, axiom, sorry.
-/
import Derived.Test.YtkfajihnnlfdfaaGreatDoorRows
import GoSem.ClaimSeven
namespace Go.Proofs.YtkfajihnnlfdfaaGreatDoor
namespace Rows

/-- THE TIED CARD OF 'subeditorlaw08.ParseEmpty'. -/
def parseEmptyCard : Claim7 := { stood := { row := parseEmptyRow, standIns := [], harness := (true, "e1890b83c2463c6e06032d4f082593a28db7f15be77e39b87d4ebb762fdd226f"), looks := true }, kinds := [], alts := [], laidByText := true, laidKinds := [.data, .listed, .data, .pinned], laidTests := true, laidLooks := .later }
def ParseEmptyCardSaid : Prop := Claim7.holds Tryz.pinned (.plain (OpenSpec.ofChange parseEmptySpec)) parseEmptyCard

/-- THE SECOND FORM's CARD OF 'subeditorlaw08.ParseEmpty'. -/
def parseEmptyUptoCard : Claim7 := { stood := { row := parseEmptyUptoRow, standIns := [], harness := (true, "e1890b83c2463c6e06032d4f082593a28db7f15be77e39b87d4ebb762fdd226f"), looks := true }, kinds := [], alts := [], laidByText := true, laidKinds := [.data, .listed, .data, .pinned], laidTests := true, laidLooks := .later }
def ParseEmptyUptoCardSaid : Prop := Claim7.holds Tryz.pinned (.plain (OpenSpec.upto parseEmptySpec)) parseEmptyUptoCard
end Rows
end Go.Proofs.YtkfajihnnlfdfaaGreatDoor
