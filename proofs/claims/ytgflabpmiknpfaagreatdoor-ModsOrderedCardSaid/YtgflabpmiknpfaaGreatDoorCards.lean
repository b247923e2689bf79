/-
  DERIVED. GIVEN WITH THE SEED: THE CARDS: each row of YtgflabpmiknpfaaGreatDoorRows.lean that lists a variable, with what it lists TIED to the program's text (the seventh form; the later family's looks); each row that meets fmt, with fmt's text TOLD by the authors' own Lean function (tested against real Go, not proved from fmt's source: count such statements apart). THE CARD IS WHAT COUNTS. Prove the row's statement (the work); the ties are given (YtgflabpmiknpfaaGreatDoorTie.lean); close each card by the builder's one call (the guide's Derived/Test/ToyasCard.lean, 'card_holds'). Laid BY PROGRAM, IN A SANDBOX (cutbox-door.mjs). By AI agents, Wed Nov 11 2026. No macro, syntax, notation, axiom, sorry.
-/
import Derived.Test.YtgflabpmiknpfaaGreatDoorRows
import GoSem.ClaimSeven
namespace Go.Proofs.YtgflabpmiknpfaaGreatDoor
namespace Rows

/-- THE TIED CARD OF 'subeditorlaw21.ModsOrdered'. -/
def modsOrderedCard : Claim7 := { stood := { row := modsOrderedRow, standIns := [], harness := (true, "530d44120c6dadd66f788393ed25c2159469a179615c0e9b2239357ecf932317"), looks := true }, kinds := [], alts := [], laidByText := true, laidKinds := [.data, .listed, .data, .pinned], laidTests := true, laidLooks := .later }
def ModsOrderedCardSaid : Prop := Claim7.holds Tryz.pinned (.plain (OpenSpec.ofChange modsOrderedSpec)) modsOrderedCard

/-- THE SECOND FORM's CARD OF 'subeditorlaw21.ModsOrdered'. -/
def modsOrderedUptoCard : Claim7 := { stood := { row := modsOrderedUptoRow, standIns := [], harness := (true, "530d44120c6dadd66f788393ed25c2159469a179615c0e9b2239357ecf932317"), looks := true }, kinds := [], alts := [], laidByText := true, laidKinds := [.data, .listed, .data, .pinned], laidTests := true, laidLooks := .later }
def ModsOrderedUptoCardSaid : Prop := Claim7.holds Tryz.pinned (.plain (OpenSpec.upto modsOrderedSpec)) modsOrderedUptoCard
end Rows
end Go.Proofs.YtgflabpmiknpfaaGreatDoor
