/-
  DERIVED. GIVEN WITH THE SEED: THE CARDS: each row of YtmgoingbogepoaaDoorRows.lean that lists a variable, with what it lists TIED to the program's text (the seventh form; the later family's looks); each row that meets fmt, with fmt's text TOLD by the authors' own Lean function (tested against real Go, not proved from fmt's source: count such statements apart). THE CARD IS WHAT COUNTS. Prove the row's statement (the work); the ties are given (YtmgoingbogepoaaDoorTie.lean); close each card by the builder's one call (the guide's Derived/Test/ToyasCard.lean, 'card_holds'). Laid BY PROGRAM, IN A SANDBOX (cutbox-door.mjs). By AI agents, Wed Nov 11 2026. No macro, syntax, notation, axiom, sorry.
-/
import Derived.Test.YtmgoingbogepoaaDoorRows
import GoSem.ClaimSeven
namespace Go.Proofs.YtmgoingbogepoaaDoor
namespace Rows

/-- THE TIED CARD OF 'subeditorlaw13.FitWidest'. -/
def fitWidestCard : Claim7 := { stood := { row := fitWidestRow, standIns := [], harness := (true, "248146fc579d58ebc8302e89f96f699a96a8164b661c432f4138344bb19de1a0"), looks := false }, kinds := [], alts := [], laidByText := true, laidKinds := [.data, .pinned], laidTests := true, laidLooks := .later }
def FitWidestCardSaid : Prop := Claim7.holds Tryd.pinned (.plain (OpenSpec.ofChange fitWidestSpec)) fitWidestCard

/-- THE SECOND FORM's CARD OF 'subeditorlaw13.FitWidest'. -/
def fitWidestUptoCard : Claim7 := { stood := { row := fitWidestUptoRow, standIns := [], harness := (true, "248146fc579d58ebc8302e89f96f699a96a8164b661c432f4138344bb19de1a0"), looks := false }, kinds := [], alts := [], laidByText := true, laidKinds := [.data, .pinned], laidTests := true, laidLooks := .later }
def FitWidestUptoCardSaid : Prop := Claim7.holds Tryd.pinned (.plain (OpenSpec.upto fitWidestSpec)) fitWidestUptoCard
end Rows
end Go.Proofs.YtmgoingbogepoaaDoor
