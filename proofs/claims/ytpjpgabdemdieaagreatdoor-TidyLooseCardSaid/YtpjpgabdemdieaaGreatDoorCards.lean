/-
  DERIVED. GIVEN WITH THE SEED: THE CARDS: each row of YtpjpgabdemdieaaGreatDoorRows.lean that lists a variable, with what it lists TIED to the program's text (the seventh form; the later family's looks); each row that meets fmt, with fmt's text TOLD by the authors' own Lean function (tested against real Go, not proved from fmt's source: count such statements apart). THE CARD IS WHAT COUNTS. Prove the row's statement (the work); the ties are given (YtpjpgabdemdieaaGreatDoorTie.lean); close each card by the builder's one call (the guide's Derived/Test/ToyasCard.lean, 'card_holds'). Laid BY PROGRAM, IN A SANDBOX (cutbox-door.mjs). By AI agents, Wed Nov 11 2026. No macro, syntax, notation, axiom, sorry.
-/
import Derived.Test.YtpjpgabdemdieaaGreatDoorRows
import GoSem.ClaimSeven
namespace Go.Proofs.YtpjpgabdemdieaaGreatDoor
namespace Rows

/-- THE TIED CARD OF 'subeditorlaw15.TidyLoose'. -/
def tidyLooseCard : Claim7 := { stood := { row := tidyLooseRow, standIns := [], harness := (true, "0c2366f3ace14a5b497b1fe1695ec0a9c778836ff75649b314953955480df7b6"), looks := true }, kinds := [], alts := [], laidByText := true, laidKinds := [.data, .listed, .data, .pinned], laidTests := true, laidLooks := .later }
def TidyLooseCardSaid : Prop := Claim7.holds Tryz.pinned (.plain (OpenSpec.ofChange tidyLooseSpec)) tidyLooseCard

/-- THE SECOND FORM's CARD OF 'subeditorlaw15.TidyLoose'. -/
def tidyLooseUptoCard : Claim7 := { stood := { row := tidyLooseUptoRow, standIns := [], harness := (true, "0c2366f3ace14a5b497b1fe1695ec0a9c778836ff75649b314953955480df7b6"), looks := true }, kinds := [], alts := [], laidByText := true, laidKinds := [.data, .listed, .data, .pinned], laidTests := true, laidLooks := .later }
def TidyLooseUptoCardSaid : Prop := Claim7.holds Tryz.pinned (.plain (OpenSpec.upto tidyLooseSpec)) tidyLooseUptoCard
end Rows
end Go.Proofs.YtpjpgabdemdieaaGreatDoor
