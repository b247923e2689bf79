/-
  DERIVED. GIVEN WITH THE SEED: THE CARDS: each row of YtjdahgihdceebaaGreatDoorRows.lean that lists a variable, with what it lists TIED to the program's text (the seventh form; the later family's looks); each row that meets fmt, with fmt's text TOLD by the authors' own Lean function (tested against real Go, not proved from fmt's source: count such statements apart). THE CARD IS WHAT COUNTS. Prove the row's statement (the work); the ties are given (YtjdahgihdceebaaGreatDoorTie.lean); close each card by the builder's one call (the guide's Derived/Test/ToyasCard.lean, 'card_holds'). Laid BY PROGRAM, IN A SANDBOX (cutbox-door.mjs). By AI agents, Wed Nov 11 2026. No macro, syntax, notation, axiom, sorry.
-/
import Derived.Test.YtjdahgihdceebaaGreatDoorRows
import GoSem.ClaimSeven
namespace Go.Proofs.YtjdahgihdceebaaGreatDoor
namespace Rows

/-- THE TIED CARD OF 'subeditorlaw08.ParseSources'. -/
def parseSourcesCard : Claim7 := { stood := { row := parseSourcesRow, standIns := [], harness := (true, "d99d044a8694df6f6a37f075ecc8b4ec58df03587fd6bea33473953697fbd8bf"), looks := true }, kinds := [], alts := [], laidByText := true, laidKinds := [.data, .listed, .data, .pinned], laidTests := true, laidLooks := .later }
def ParseSourcesCardSaid : Prop := Claim7.holds Tryz.pinned (.plain (OpenSpec.ofChange parseSourcesSpec)) parseSourcesCard

/-- THE TIED CARD OF 'subeditorlaw08.ParsePrograms'. -/
def parseProgramsCard : Claim7 := { stood := { row := parseProgramsRow, standIns := [], harness := (true, "d99d044a8694df6f6a37f075ecc8b4ec58df03587fd6bea33473953697fbd8bf"), looks := true }, kinds := [], alts := [], laidByText := true, laidKinds := [.data, .listed, .data, .pinned], laidTests := true, laidLooks := .later }
def ParseProgramsCardSaid : Prop := Claim7.holds Tryz.pinned (.plain (OpenSpec.ofChange parseProgramsSpec)) parseProgramsCard

/-- THE TIED CARD OF 'subeditorlaw08.ParseFirst'. -/
def parseFirstCard : Claim7 := { stood := { row := parseFirstRow, standIns := [], harness := (true, "d99d044a8694df6f6a37f075ecc8b4ec58df03587fd6bea33473953697fbd8bf"), looks := true }, kinds := [], alts := [], laidByText := true, laidKinds := [.data, .listed, .data, .pinned], laidTests := true, laidLooks := .later }
def ParseFirstCardSaid : Prop := Claim7.holds Tryz.pinned (.plain (OpenSpec.ofChange parseFirstSpec)) parseFirstCard

/-- THE TIED CARD OF 'subeditorlaw08.ParseDeep'. -/
def parseDeepCard : Claim7 := { stood := { row := parseDeepRow, standIns := [], harness := (true, "d99d044a8694df6f6a37f075ecc8b4ec58df03587fd6bea33473953697fbd8bf"), looks := true }, kinds := [], alts := [], laidByText := true, laidKinds := [.data, .listed, .data, .pinned], laidTests := true, laidLooks := .later }
def ParseDeepCardSaid : Prop := Claim7.holds Tryz.pinned (.plain (OpenSpec.ofChange parseDeepSpec)) parseDeepCard

/-- THE TIED CARD OF 'subeditorlaw08.ParseSpaces'. -/
def parseSpacesCard : Claim7 := { stood := { row := parseSpacesRow, standIns := [], harness := (true, "d99d044a8694df6f6a37f075ecc8b4ec58df03587fd6bea33473953697fbd8bf"), looks := true }, kinds := [], alts := [], laidByText := true, laidKinds := [.data, .listed, .data, .pinned], laidTests := true, laidLooks := .later }
def ParseSpacesCardSaid : Prop := Claim7.holds Tryz.pinned (.plain (OpenSpec.ofChange parseSpacesSpec)) parseSpacesCard

/-- THE SECOND FORM's CARD OF 'subeditorlaw08.ParseSources'. -/
def parseSourcesUptoCard : Claim7 := { stood := { row := parseSourcesUptoRow, standIns := [], harness := (true, "d99d044a8694df6f6a37f075ecc8b4ec58df03587fd6bea33473953697fbd8bf"), looks := true }, kinds := [], alts := [], laidByText := true, laidKinds := [.data, .listed, .data, .pinned], laidTests := true, laidLooks := .later }
def ParseSourcesUptoCardSaid : Prop := Claim7.holds Tryz.pinned (.plain (OpenSpec.upto parseSourcesSpec)) parseSourcesUptoCard

/-- THE SECOND FORM's CARD OF 'subeditorlaw08.ParsePrograms'. -/
def parseProgramsUptoCard : Claim7 := { stood := { row := parseProgramsUptoRow, standIns := [], harness := (true, "d99d044a8694df6f6a37f075ecc8b4ec58df03587fd6bea33473953697fbd8bf"), looks := true }, kinds := [], alts := [], laidByText := true, laidKinds := [.data, .listed, .data, .pinned], laidTests := true, laidLooks := .later }
def ParseProgramsUptoCardSaid : Prop := Claim7.holds Tryz.pinned (.plain (OpenSpec.upto parseProgramsSpec)) parseProgramsUptoCard

/-- THE SECOND FORM's CARD OF 'subeditorlaw08.ParseFirst'. -/
def parseFirstUptoCard : Claim7 := { stood := { row := parseFirstUptoRow, standIns := [], harness := (true, "d99d044a8694df6f6a37f075ecc8b4ec58df03587fd6bea33473953697fbd8bf"), looks := true }, kinds := [], alts := [], laidByText := true, laidKinds := [.data, .listed, .data, .pinned], laidTests := true, laidLooks := .later }
def ParseFirstUptoCardSaid : Prop := Claim7.holds Tryz.pinned (.plain (OpenSpec.upto parseFirstSpec)) parseFirstUptoCard

/-- THE SECOND FORM's CARD OF 'subeditorlaw08.ParseDeep'. -/
def parseDeepUptoCard : Claim7 := { stood := { row := parseDeepUptoRow, standIns := [], harness := (true, "d99d044a8694df6f6a37f075ecc8b4ec58df03587fd6bea33473953697fbd8bf"), looks := true }, kinds := [], alts := [], laidByText := true, laidKinds := [.data, .listed, .data, .pinned], laidTests := true, laidLooks := .later }
def ParseDeepUptoCardSaid : Prop := Claim7.holds Tryz.pinned (.plain (OpenSpec.upto parseDeepSpec)) parseDeepUptoCard

/-- THE SECOND FORM's CARD OF 'subeditorlaw08.ParseSpaces'. -/
def parseSpacesUptoCard : Claim7 := { stood := { row := parseSpacesUptoRow, standIns := [], harness := (true, "d99d044a8694df6f6a37f075ecc8b4ec58df03587fd6bea33473953697fbd8bf"), looks := true }, kinds := [], alts := [], laidByText := true, laidKinds := [.data, .listed, .data, .pinned], laidTests := true, laidLooks := .later }
def ParseSpacesUptoCardSaid : Prop := Claim7.holds Tryz.pinned (.plain (OpenSpec.upto parseSpacesSpec)) parseSpacesUptoCard
end Rows
end Go.Proofs.YtjdahgihdceebaaGreatDoor
