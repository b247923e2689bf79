/-
  DERIVED. GIVEN WITH THE SEED: THE CARDS: each row of YtcfdhkmbooipbaaGreatDoorRows.lean that lists a variable, with what it lists TIED to the program's text (the seventh form; the later family's looks); each row that meets fmt, with fmt's text TOLD by the authors' own Lean function (tested against real Go, not proved from fmt's source: count such statements apart). THE CARD IS WHAT COUNTS. Prove the row's statement (the work); the ties are given (YtcfdhkmbooipbaaGreatDoorTie.lean); close each card by the builder's one call (the guide's Derived/Test/ToyasCard.lean, 'card_holds'). Laid BY PROGRAM, IN A SANDBOX (cutbox-door.mjs). By AI agents, Wed Nov 11 2026. No macro, syntax, notation, axiom, sorry.
-/
import Derived.Test.YtcfdhkmbooipbaaGreatDoorRows
import GoSem.ClaimSeven
namespace Go.Proofs.YtcfdhkmbooipbaaGreatDoor
namespace Rows

/-- THE TIED CARD OF 'subeditorlaw15.TidySpreads'. -/
def tidySpreadsCard : Claim7 := { stood := { row := tidySpreadsRow, standIns := [], harness := (true, "0b999e9c2f981fa98ebdb0f80aa9149c2fe61fe31f6b202e66573ed29939270a"), looks := true }, kinds := [], alts := [], laidByText := true, laidKinds := [.data, .listed, .data, .pinned], laidTests := true, laidLooks := .later }
def TidySpreadsCardSaid : Prop := Claim7.holds Tryz.pinned (.plain (OpenSpec.ofChange tidySpreadsSpec)) tidySpreadsCard

/-- THE TIED CARD OF 'subeditorlaw15.TidyNotes'. -/
def tidyNotesCard : Claim7 := { stood := { row := tidyNotesRow, standIns := [], harness := (true, "0b999e9c2f981fa98ebdb0f80aa9149c2fe61fe31f6b202e66573ed29939270a"), looks := true }, kinds := [], alts := [], laidByText := true, laidKinds := [.data, .listed, .data, .pinned], laidTests := true, laidLooks := .later }
def TidyNotesCardSaid : Prop := Claim7.holds Tryz.pinned (.plain (OpenSpec.ofChange tidyNotesSpec)) tidyNotesCard

/-- THE SECOND FORM's CARD OF 'subeditorlaw15.TidySpreads'. -/
def tidySpreadsUptoCard : Claim7 := { stood := { row := tidySpreadsUptoRow, standIns := [], harness := (true, "0b999e9c2f981fa98ebdb0f80aa9149c2fe61fe31f6b202e66573ed29939270a"), looks := true }, kinds := [], alts := [], laidByText := true, laidKinds := [.data, .listed, .data, .pinned], laidTests := true, laidLooks := .later }
def TidySpreadsUptoCardSaid : Prop := Claim7.holds Tryz.pinned (.plain (OpenSpec.upto tidySpreadsSpec)) tidySpreadsUptoCard

/-- THE SECOND FORM's CARD OF 'subeditorlaw15.TidyNotes'. -/
def tidyNotesUptoCard : Claim7 := { stood := { row := tidyNotesUptoRow, standIns := [], harness := (true, "0b999e9c2f981fa98ebdb0f80aa9149c2fe61fe31f6b202e66573ed29939270a"), looks := true }, kinds := [], alts := [], laidByText := true, laidKinds := [.data, .listed, .data, .pinned], laidTests := true, laidLooks := .later }
def TidyNotesUptoCardSaid : Prop := Claim7.holds Tryz.pinned (.plain (OpenSpec.upto tidyNotesSpec)) tidyNotesUptoCard
end Rows
end Go.Proofs.YtcfdhkmbooipbaaGreatDoor
