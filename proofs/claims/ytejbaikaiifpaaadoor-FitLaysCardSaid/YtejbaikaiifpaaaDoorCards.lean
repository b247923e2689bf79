/-
  DERIVED. GIVEN WITH THE SEED: THE CARDS: each row of YtejbaikaiifpaaaDoorRows.lean that lists a variable, with what it lists TIED to the program's text (the seventh form; the later family's looks); each row that meets fmt, with fmt's text TOLD by the authors' own Lean function (tested against real Go, not proved from fmt's source: count such statements apart). THE CARD IS WHAT COUNTS. Prove the row's statement (the work); the ties are given (YtejbaikaiifpaaaDoorTie.lean); close each card by the builder's one call (the guide's Derived/Test/ToyasCard.lean, 'card_holds'). Laid BY PROGRAM, IN A SANDBOX (cutbox-door.mjs). By AI agents, Wed Nov 11 2026. No macro, syntax, notation, axiom, sorry.
-/
import Derived.Test.YtejbaikaiifpaaaDoorRows
import GoSem.ClaimSeven
namespace Go.Proofs.YtejbaikaiifpaaaDoor
namespace Rows

/-- THE TIED CARD OF 'subeditorlaw13.FitLays'. -/
def fitLaysCard : Claim7 := { stood := { row := fitLaysRow, standIns := [], harness := (true, "ad7198c580064a81c2e5f2359004eb677c822eda5416628a226760b8a219ec94"), looks := false }, kinds := [], alts := [], laidByText := true, laidKinds := [.data, .pinned], laidTests := true, laidLooks := .later }
def FitLaysCardSaid : Prop := Claim7.holds Tryd.pinned (.plain (OpenSpec.ofChange fitLaysSpec)) fitLaysCard

/-- THE TIED CARD OF 'subeditorlaw13.FitWords'. -/
def fitWordsCard : Claim7 := { stood := { row := fitWordsRow, standIns := [], harness := (true, "ad7198c580064a81c2e5f2359004eb677c822eda5416628a226760b8a219ec94"), looks := false }, kinds := [], alts := [], laidByText := true, laidKinds := [.data, .pinned], laidTests := true, laidLooks := .later }
def FitWordsCardSaid : Prop := Claim7.holds Tryd.pinned (.plain (OpenSpec.ofChange fitWordsSpec)) fitWordsCard

/-- THE TIED CARD OF 'subeditorlaw13.FitWide'. -/
def fitWideCard : Claim7 := { stood := { row := fitWideRow, standIns := [], harness := (true, "ad7198c580064a81c2e5f2359004eb677c822eda5416628a226760b8a219ec94"), looks := false }, kinds := [], alts := [], laidByText := true, laidKinds := [.data, .pinned], laidTests := true, laidLooks := .later }
def FitWideCardSaid : Prop := Claim7.holds Tryd.pinned (.plain (OpenSpec.ofChange fitWideSpec)) fitWideCard

/-- THE TIED CARD OF 'subeditorlaw13.FitFew'. -/
def fitFewCard : Claim7 := { stood := { row := fitFewRow, standIns := [], harness := (true, "ad7198c580064a81c2e5f2359004eb677c822eda5416628a226760b8a219ec94"), looks := false }, kinds := [], alts := [], laidByText := true, laidKinds := [.data, .pinned], laidTests := true, laidLooks := .later }
def FitFewCardSaid : Prop := Claim7.holds Tryd.pinned (.plain (OpenSpec.ofChange fitFewSpec)) fitFewCard

/-- THE TIED CARD OF 'subeditorlaw13.FitRows'. -/
def fitRowsCard : Claim7 := { stood := { row := fitRowsRow, standIns := [], harness := (true, "ad7198c580064a81c2e5f2359004eb677c822eda5416628a226760b8a219ec94"), looks := false }, kinds := [], alts := [], laidByText := true, laidKinds := [.data, .pinned], laidTests := true, laidLooks := .later }
def FitRowsCardSaid : Prop := Claim7.holds Tryd.pinned (.plain (OpenSpec.ofChange fitRowsSpec)) fitRowsCard

/-- THE SECOND FORM's CARD OF 'subeditorlaw13.FitLays'. -/
def fitLaysUptoCard : Claim7 := { stood := { row := fitLaysUptoRow, standIns := [], harness := (true, "ad7198c580064a81c2e5f2359004eb677c822eda5416628a226760b8a219ec94"), looks := false }, kinds := [], alts := [], laidByText := true, laidKinds := [.data, .pinned], laidTests := true, laidLooks := .later }
def FitLaysUptoCardSaid : Prop := Claim7.holds Tryd.pinned (.plain (OpenSpec.upto fitLaysSpec)) fitLaysUptoCard

/-- THE SECOND FORM's CARD OF 'subeditorlaw13.FitWords'. -/
def fitWordsUptoCard : Claim7 := { stood := { row := fitWordsUptoRow, standIns := [], harness := (true, "ad7198c580064a81c2e5f2359004eb677c822eda5416628a226760b8a219ec94"), looks := false }, kinds := [], alts := [], laidByText := true, laidKinds := [.data, .pinned], laidTests := true, laidLooks := .later }
def FitWordsUptoCardSaid : Prop := Claim7.holds Tryd.pinned (.plain (OpenSpec.upto fitWordsSpec)) fitWordsUptoCard

/-- THE SECOND FORM's CARD OF 'subeditorlaw13.FitWide'. -/
def fitWideUptoCard : Claim7 := { stood := { row := fitWideUptoRow, standIns := [], harness := (true, "ad7198c580064a81c2e5f2359004eb677c822eda5416628a226760b8a219ec94"), looks := false }, kinds := [], alts := [], laidByText := true, laidKinds := [.data, .pinned], laidTests := true, laidLooks := .later }
def FitWideUptoCardSaid : Prop := Claim7.holds Tryd.pinned (.plain (OpenSpec.upto fitWideSpec)) fitWideUptoCard

/-- THE SECOND FORM's CARD OF 'subeditorlaw13.FitFew'. -/
def fitFewUptoCard : Claim7 := { stood := { row := fitFewUptoRow, standIns := [], harness := (true, "ad7198c580064a81c2e5f2359004eb677c822eda5416628a226760b8a219ec94"), looks := false }, kinds := [], alts := [], laidByText := true, laidKinds := [.data, .pinned], laidTests := true, laidLooks := .later }
def FitFewUptoCardSaid : Prop := Claim7.holds Tryd.pinned (.plain (OpenSpec.upto fitFewSpec)) fitFewUptoCard

/-- THE SECOND FORM's CARD OF 'subeditorlaw13.FitRows'. -/
def fitRowsUptoCard : Claim7 := { stood := { row := fitRowsUptoRow, standIns := [], harness := (true, "ad7198c580064a81c2e5f2359004eb677c822eda5416628a226760b8a219ec94"), looks := false }, kinds := [], alts := [], laidByText := true, laidKinds := [.data, .pinned], laidTests := true, laidLooks := .later }
def FitRowsUptoCardSaid : Prop := Claim7.holds Tryd.pinned (.plain (OpenSpec.upto fitRowsSpec)) fitRowsUptoCard
end Rows
end Go.Proofs.YtejbaikaiifpaaaDoor
