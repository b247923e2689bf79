/-
  DERIVED. GIVEN WITH THE SEED: THE CARDS: each row of YtehohdjoiomajaaGreatDoorRows.lean that lists a variable, with what it lists TIED to the program's text (the seventh form; the later family's looks); each row that meets fmt, with fmt's text TOLD by the authors' own Lean function (tested against real Go, not proved from fmt's source: count such statements apart). THE CARD IS WHAT COUNTS. Prove the row's statement (the work); the ties are given (YtehohdjoiomajaaGreatDoorTie.lean); close each card by the builder's one call (the guide's Derived/Test/ToyasCard.lean, 'card_holds'). Laid BY PROGRAM, IN A SANDBOX (cutbox-door.mjs). By AI agents, Wed Nov 11 2026. No macro, syntax, notation, axiom, sorry.
-/
import Derived.Test.YtehohdjoiomajaaGreatDoorRows
import GoSem.ClaimSeven
namespace Go.Proofs.YtehohdjoiomajaaGreatDoor
namespace Rows

/-- THE TIED CARD OF 'subeditorlaw21.ModsCircle'. -/
def modsCircleCard : Claim7 := { stood := { row := modsCircleRow, standIns := [], harness := (true, "45fc063c833157b91721e33306c5755febc8a8eee905159f7117b9a13c83f8c1"), looks := true }, kinds := [], alts := [], laidByText := true, laidKinds := [.data, .listed, .data, .pinned], laidTests := true, laidLooks := .later }
def ModsCircleCardSaid : Prop := Claim7.holds Tryz.pinned (.plain (OpenSpec.ofChange modsCircleSpec)) modsCircleCard

/-- THE TIED CARD OF 'subeditorlaw21.ModsChain'. -/
def modsChainCard : Claim7 := { stood := { row := modsChainRow, standIns := [], harness := (true, "45fc063c833157b91721e33306c5755febc8a8eee905159f7117b9a13c83f8c1"), looks := true }, kinds := [], alts := [], laidByText := true, laidKinds := [.data, .listed, .data, .pinned], laidTests := true, laidLooks := .later }
def ModsChainCardSaid : Prop := Claim7.holds Tryz.pinned (.plain (OpenSpec.ofChange modsChainSpec)) modsChainCard

/-- THE TIED CARD OF 'subeditorlaw21.ModsLost'. -/
def modsLostCard : Claim7 := { stood := { row := modsLostRow, standIns := [], harness := (true, "45fc063c833157b91721e33306c5755febc8a8eee905159f7117b9a13c83f8c1"), looks := true }, kinds := [], alts := [], laidByText := true, laidKinds := [.data, .listed, .data, .pinned], laidTests := true, laidLooks := .later }
def ModsLostCardSaid : Prop := Claim7.holds Tryz.pinned (.plain (OpenSpec.ofChange modsLostSpec)) modsLostCard

/-- THE TIED CARD OF 'subeditorlaw21.ModsOrdered'. -/
def modsOrderedCard : Claim7 := { stood := { row := modsOrderedRow, standIns := [], harness := (true, "45fc063c833157b91721e33306c5755febc8a8eee905159f7117b9a13c83f8c1"), looks := true }, kinds := [], alts := [], laidByText := true, laidKinds := [.data, .listed, .data, .pinned], laidTests := true, laidLooks := .later }
def ModsOrderedCardSaid : Prop := Claim7.holds Tryz.pinned (.plain (OpenSpec.ofChange modsOrderedSpec)) modsOrderedCard

/-- THE SECOND FORM's CARD OF 'subeditorlaw21.ModsCircle'. -/
def modsCircleUptoCard : Claim7 := { stood := { row := modsCircleUptoRow, standIns := [], harness := (true, "45fc063c833157b91721e33306c5755febc8a8eee905159f7117b9a13c83f8c1"), looks := true }, kinds := [], alts := [], laidByText := true, laidKinds := [.data, .listed, .data, .pinned], laidTests := true, laidLooks := .later }
def ModsCircleUptoCardSaid : Prop := Claim7.holds Tryz.pinned (.plain (OpenSpec.upto modsCircleSpec)) modsCircleUptoCard

/-- THE SECOND FORM's CARD OF 'subeditorlaw21.ModsChain'. -/
def modsChainUptoCard : Claim7 := { stood := { row := modsChainUptoRow, standIns := [], harness := (true, "45fc063c833157b91721e33306c5755febc8a8eee905159f7117b9a13c83f8c1"), looks := true }, kinds := [], alts := [], laidByText := true, laidKinds := [.data, .listed, .data, .pinned], laidTests := true, laidLooks := .later }
def ModsChainUptoCardSaid : Prop := Claim7.holds Tryz.pinned (.plain (OpenSpec.upto modsChainSpec)) modsChainUptoCard

/-- THE SECOND FORM's CARD OF 'subeditorlaw21.ModsLost'. -/
def modsLostUptoCard : Claim7 := { stood := { row := modsLostUptoRow, standIns := [], harness := (true, "45fc063c833157b91721e33306c5755febc8a8eee905159f7117b9a13c83f8c1"), looks := true }, kinds := [], alts := [], laidByText := true, laidKinds := [.data, .listed, .data, .pinned], laidTests := true, laidLooks := .later }
def ModsLostUptoCardSaid : Prop := Claim7.holds Tryz.pinned (.plain (OpenSpec.upto modsLostSpec)) modsLostUptoCard

/-- THE SECOND FORM's CARD OF 'subeditorlaw21.ModsOrdered'. -/
def modsOrderedUptoCard : Claim7 := { stood := { row := modsOrderedUptoRow, standIns := [], harness := (true, "45fc063c833157b91721e33306c5755febc8a8eee905159f7117b9a13c83f8c1"), looks := true }, kinds := [], alts := [], laidByText := true, laidKinds := [.data, .listed, .data, .pinned], laidTests := true, laidLooks := .later }
def ModsOrderedUptoCardSaid : Prop := Claim7.holds Tryz.pinned (.plain (OpenSpec.upto modsOrderedSpec)) modsOrderedUptoCard
end Rows
end Go.Proofs.YtehohdjoiomajaaGreatDoor
