/-
  DERIVED. GIVEN WITH THE SEED: THE CARDS: each row of YtkifjfjcfolhpaaGreatDoorRows.lean that lists a variable, with what it lists TIED to the program's text (the seventh form; the later family's looks); each row that meets fmt, with fmt's text TOLD by the authors' own Lean function (tested against real Go, not proved from fmt's source: count such statements apart). THE CARD IS WHAT COUNTS. Prove the row's statement (the work); the ties are given (YtkifjfjcfolhpaaGreatDoorTie.lean); close each card by the builder's one call (the guide's Derived/Test/ToyasCard.lean, 'card_holds'). Laid BY PROGRAM, IN A SANDBOX (cutbox-door.mjs). By AI agents, Wed Nov 11 2026. No macro, syntax, notation, axiom, sorry.
-/
import Derived.Test.YtkifjfjcfolhpaaGreatDoorRows
import GoSem.ClaimSeven
namespace Go.Proofs.YtkifjfjcfolhpaaGreatDoor
namespace Rows

/-- THE TIED CARD OF 'subeditorlaw08.ParseDeep'. -/
def parseDeepCard : Claim7 := { stood := { row := parseDeepRow, standIns := [], harness := (true, "3b085cb2f7a90b22d926a5ee9b553a23718a594d7bc9290409ce03f06416ba65"), looks := true }, kinds := [], alts := [], laidByText := true, laidKinds := [.data, .listed, .data, .pinned], laidTests := true, laidLooks := .later }
def ParseDeepCardSaid : Prop := Claim7.holds Tryz.pinned (.plain (OpenSpec.ofChange parseDeepSpec)) parseDeepCard

/-- THE TIED CARD OF 'subeditorlaw08.ParseOpers'. -/
def parseOpersCard : Claim7 := { stood := { row := parseOpersRow, standIns := [], harness := (true, "3b085cb2f7a90b22d926a5ee9b553a23718a594d7bc9290409ce03f06416ba65"), looks := true }, kinds := [], alts := [], laidByText := true, laidKinds := [.data, .listed, .data, .pinned], laidTests := true, laidLooks := .later }
def ParseOpersCardSaid : Prop := Claim7.holds Tryz.pinned (.plain (OpenSpec.ofChange parseOpersSpec)) parseOpersCard

/-- THE TIED CARD OF 'subeditorlaw08.ParseGreedy'. -/
def parseGreedyCard : Claim7 := { stood := { row := parseGreedyRow, standIns := [], harness := (true, "3b085cb2f7a90b22d926a5ee9b553a23718a594d7bc9290409ce03f06416ba65"), looks := true }, kinds := [], alts := [], laidByText := true, laidKinds := [.data, .listed, .data, .pinned], laidTests := true, laidLooks := .later }
def ParseGreedyCardSaid : Prop := Claim7.holds Tryz.pinned (.plain (OpenSpec.ofChange parseGreedySpec)) parseGreedyCard

/-- THE TIED CARD OF 'subeditorlaw08.ParseEmpty'. -/
def parseEmptyCard : Claim7 := { stood := { row := parseEmptyRow, standIns := [], harness := (true, "3b085cb2f7a90b22d926a5ee9b553a23718a594d7bc9290409ce03f06416ba65"), looks := true }, kinds := [], alts := [], laidByText := true, laidKinds := [.data, .listed, .data, .pinned], laidTests := true, laidLooks := .later }
def ParseEmptyCardSaid : Prop := Claim7.holds Tryz.pinned (.plain (OpenSpec.ofChange parseEmptySpec)) parseEmptyCard

/-- THE TIED CARD OF 'subeditorlaw08.ParseKeys'. -/
def parseKeysCard : Claim7 := { stood := { row := parseKeysRow, standIns := [], harness := (true, "3b085cb2f7a90b22d926a5ee9b553a23718a594d7bc9290409ce03f06416ba65"), looks := true }, kinds := [], alts := [], laidByText := true, laidKinds := [.data, .listed, .data, .pinned], laidTests := true, laidLooks := .later }
def ParseKeysCardSaid : Prop := Claim7.holds Tryz.pinned (.plain (OpenSpec.ofChange parseKeysSpec)) parseKeysCard

/-- THE SECOND FORM's CARD OF 'subeditorlaw08.ParseDeep'. -/
def parseDeepUptoCard : Claim7 := { stood := { row := parseDeepUptoRow, standIns := [], harness := (true, "3b085cb2f7a90b22d926a5ee9b553a23718a594d7bc9290409ce03f06416ba65"), looks := true }, kinds := [], alts := [], laidByText := true, laidKinds := [.data, .listed, .data, .pinned], laidTests := true, laidLooks := .later }
def ParseDeepUptoCardSaid : Prop := Claim7.holds Tryz.pinned (.plain (OpenSpec.upto parseDeepSpec)) parseDeepUptoCard

/-- THE SECOND FORM's CARD OF 'subeditorlaw08.ParseOpers'. -/
def parseOpersUptoCard : Claim7 := { stood := { row := parseOpersUptoRow, standIns := [], harness := (true, "3b085cb2f7a90b22d926a5ee9b553a23718a594d7bc9290409ce03f06416ba65"), looks := true }, kinds := [], alts := [], laidByText := true, laidKinds := [.data, .listed, .data, .pinned], laidTests := true, laidLooks := .later }
def ParseOpersUptoCardSaid : Prop := Claim7.holds Tryz.pinned (.plain (OpenSpec.upto parseOpersSpec)) parseOpersUptoCard

/-- THE SECOND FORM's CARD OF 'subeditorlaw08.ParseGreedy'. -/
def parseGreedyUptoCard : Claim7 := { stood := { row := parseGreedyUptoRow, standIns := [], harness := (true, "3b085cb2f7a90b22d926a5ee9b553a23718a594d7bc9290409ce03f06416ba65"), looks := true }, kinds := [], alts := [], laidByText := true, laidKinds := [.data, .listed, .data, .pinned], laidTests := true, laidLooks := .later }
def ParseGreedyUptoCardSaid : Prop := Claim7.holds Tryz.pinned (.plain (OpenSpec.upto parseGreedySpec)) parseGreedyUptoCard

/-- THE SECOND FORM's CARD OF 'subeditorlaw08.ParseEmpty'. -/
def parseEmptyUptoCard : Claim7 := { stood := { row := parseEmptyUptoRow, standIns := [], harness := (true, "3b085cb2f7a90b22d926a5ee9b553a23718a594d7bc9290409ce03f06416ba65"), looks := true }, kinds := [], alts := [], laidByText := true, laidKinds := [.data, .listed, .data, .pinned], laidTests := true, laidLooks := .later }
def ParseEmptyUptoCardSaid : Prop := Claim7.holds Tryz.pinned (.plain (OpenSpec.upto parseEmptySpec)) parseEmptyUptoCard

/-- THE SECOND FORM's CARD OF 'subeditorlaw08.ParseKeys'. -/
def parseKeysUptoCard : Claim7 := { stood := { row := parseKeysUptoRow, standIns := [], harness := (true, "3b085cb2f7a90b22d926a5ee9b553a23718a594d7bc9290409ce03f06416ba65"), looks := true }, kinds := [], alts := [], laidByText := true, laidKinds := [.data, .listed, .data, .pinned], laidTests := true, laidLooks := .later }
def ParseKeysUptoCardSaid : Prop := Claim7.holds Tryz.pinned (.plain (OpenSpec.upto parseKeysSpec)) parseKeysUptoCard
end Rows
end Go.Proofs.YtkifjfjcfolhpaaGreatDoor
