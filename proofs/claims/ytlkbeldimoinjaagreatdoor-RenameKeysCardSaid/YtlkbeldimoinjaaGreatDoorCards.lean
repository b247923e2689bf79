/-
  DERIVED. GIVEN WITH THE SEED: THE CARDS: each row of YtlkbeldimoinjaaGreatDoorRows.lean that lists a variable, with what it lists TIED to the program's text (the seventh form; the later family's looks); each row that meets fmt, with fmt's text TOLD by the authors' own Lean function (tested against real Go, not proved from fmt's source: count such statements apart). THE CARD IS WHAT COUNTS. Prove the row's statement (the work); the ties are given (YtlkbeldimoinjaaGreatDoorTie.lean); close each card by the builder's one call (the guide's Derived/Test/ToyasCard.lean, 'card_holds'). Laid BY PROGRAM, IN A SANDBOX (cutbox-door.mjs). By AI agents, Wed Nov 11 2026. No macro, syntax, notation, axiom, sorry.
-/
import Derived.Test.YtlkbeldimoinjaaGreatDoorRows
import GoSem.ClaimSeven
namespace Go.Proofs.YtlkbeldimoinjaaGreatDoor
namespace Rows

/-- THE TIED CARD OF 'subeditorlaw18.RenameCatch'. -/
def renameCatchCard : Claim7 := { stood := { row := renameCatchRow, standIns := [], harness := (true, "74b308f2aa7cd19cf790a219881cceefeb842ecd53ad4d3e80334c3326386bdf"), looks := true }, kinds := [], alts := [], laidByText := true, laidKinds := [.data, .listed, .data, .pinned], laidTests := true, laidLooks := .later }
def RenameCatchCardSaid : Prop := Claim7.holds Tryz.pinned (.plain (OpenSpec.ofChange renameCatchSpec)) renameCatchCard

/-- THE TIED CARD OF 'subeditorlaw18.RenameKeys'. -/
def renameKeysCard : Claim7 := { stood := { row := renameKeysRow, standIns := [], harness := (true, "74b308f2aa7cd19cf790a219881cceefeb842ecd53ad4d3e80334c3326386bdf"), looks := true }, kinds := [], alts := [], laidByText := true, laidKinds := [.data, .listed, .data, .pinned], laidTests := true, laidLooks := .later }
def RenameKeysCardSaid : Prop := Claim7.holds Tryz.pinned (.plain (OpenSpec.ofChange renameKeysSpec)) renameKeysCard

/-- THE SECOND FORM's CARD OF 'subeditorlaw18.RenameCatch'. -/
def renameCatchUptoCard : Claim7 := { stood := { row := renameCatchUptoRow, standIns := [], harness := (true, "74b308f2aa7cd19cf790a219881cceefeb842ecd53ad4d3e80334c3326386bdf"), looks := true }, kinds := [], alts := [], laidByText := true, laidKinds := [.data, .listed, .data, .pinned], laidTests := true, laidLooks := .later }
def RenameCatchUptoCardSaid : Prop := Claim7.holds Tryz.pinned (.plain (OpenSpec.upto renameCatchSpec)) renameCatchUptoCard

/-- THE SECOND FORM's CARD OF 'subeditorlaw18.RenameKeys'. -/
def renameKeysUptoCard : Claim7 := { stood := { row := renameKeysUptoRow, standIns := [], harness := (true, "74b308f2aa7cd19cf790a219881cceefeb842ecd53ad4d3e80334c3326386bdf"), looks := true }, kinds := [], alts := [], laidByText := true, laidKinds := [.data, .listed, .data, .pinned], laidTests := true, laidLooks := .later }
def RenameKeysUptoCardSaid : Prop := Claim7.holds Tryz.pinned (.plain (OpenSpec.upto renameKeysSpec)) renameKeysUptoCard
end Rows
end Go.Proofs.YtlkbeldimoinjaaGreatDoor
