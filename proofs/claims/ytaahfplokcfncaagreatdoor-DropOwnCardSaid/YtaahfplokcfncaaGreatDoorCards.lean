/-
  DERIVED. GIVEN WITH THE SEED: THE CARDS: each row of YtaahfplokcfncaaGreatDoorRows.lean that lists a variable, with what it lists TIED to the program's text (the seventh form; the later family's looks); each row that meets fmt, with fmt's text TOLD by the authors' own Lean function (tested against real Go, not proved from fmt's source: count such statements apart). THE CARD IS WHAT COUNTS. Prove the row's statement (the work); the ties are given (YtaahfplokcfncaaGreatDoorTie.lean); close each card by the builder's one call (the guide's Derived/Test/ToyasCard.lean, 'card_holds'). Laid BY PROGRAM, IN A SANDBOX (cutbox-door.mjs). By AI agents, Wed Nov 11 2026. No macro, syntax, notation, axiom, sorry.
-/
import Derived.Test.YtaahfplokcfncaaGreatDoorRows
import GoSem.ClaimSeven
namespace Go.Proofs.YtaahfplokcfncaaGreatDoor
namespace Rows

/-- THE TIED CARD OF 'subeditorlaw19.DropOwn'. -/
def dropOwnCard : Claim7 := { stood := { row := dropOwnRow, standIns := [], harness := (true, "a9cfa2e051800bb078aac165174976546e9346a14bd409d62ae1a7b2fad0bde4"), looks := true }, kinds := [], alts := [], laidByText := true, laidKinds := [.data, .listed, .data, .pinned], laidTests := true, laidLooks := .later }
def DropOwnCardSaid : Prop := Claim7.holds Tryz.pinned (.plain (OpenSpec.ofChange dropOwnSpec)) dropOwnCard

/-- THE TIED CARD OF 'subeditorlaw19.DropNotes'. -/
def dropNotesCard : Claim7 := { stood := { row := dropNotesRow, standIns := [], harness := (true, "a9cfa2e051800bb078aac165174976546e9346a14bd409d62ae1a7b2fad0bde4"), looks := true }, kinds := [], alts := [], laidByText := true, laidKinds := [.data, .listed, .data, .pinned], laidTests := true, laidLooks := .later }
def DropNotesCardSaid : Prop := Claim7.holds Tryz.pinned (.plain (OpenSpec.ofChange dropNotesSpec)) dropNotesCard

/-- THE SECOND FORM's CARD OF 'subeditorlaw19.DropOwn'. -/
def dropOwnUptoCard : Claim7 := { stood := { row := dropOwnUptoRow, standIns := [], harness := (true, "a9cfa2e051800bb078aac165174976546e9346a14bd409d62ae1a7b2fad0bde4"), looks := true }, kinds := [], alts := [], laidByText := true, laidKinds := [.data, .listed, .data, .pinned], laidTests := true, laidLooks := .later }
def DropOwnUptoCardSaid : Prop := Claim7.holds Tryz.pinned (.plain (OpenSpec.upto dropOwnSpec)) dropOwnUptoCard

/-- THE SECOND FORM's CARD OF 'subeditorlaw19.DropNotes'. -/
def dropNotesUptoCard : Claim7 := { stood := { row := dropNotesUptoRow, standIns := [], harness := (true, "a9cfa2e051800bb078aac165174976546e9346a14bd409d62ae1a7b2fad0bde4"), looks := true }, kinds := [], alts := [], laidByText := true, laidKinds := [.data, .listed, .data, .pinned], laidTests := true, laidLooks := .later }
def DropNotesUptoCardSaid : Prop := Claim7.holds Tryz.pinned (.plain (OpenSpec.upto dropNotesSpec)) dropNotesUptoCard
end Rows
end Go.Proofs.YtaahfplokcfncaaGreatDoor
