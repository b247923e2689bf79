/-
  DERIVED. GIVEN WITH THE SEED: THE CARDS: each row of YtimkfnaodbfjmaaDoorRows.lean that lists a variable, with what it lists TIED to the program's text (the seventh form; the later family's looks); each row that meets fmt, with fmt's text TOLD by the authors' own Lean function (tested against real Go, not proved from fmt's source: count such statements apart). THE CARD IS WHAT COUNTS. Prove the row's statement (the work); the ties are given (YtimkfnaodbfjmaaDoorTie.lean); close each card by the builder's one call (the guide's Derived/Test/ToyasCard.lean, 'card_holds'). Laid BY PROGRAM, IN A SANDBOX (cutbox-door.mjs). By AI agents, Wed Nov 11 2026. No macro, syntax, notation, axiom, sorry.
-/
import Derived.Test.YtimkfnaodbfjmaaDoorRows
import GoSem.ClaimSeven
namespace Go.Proofs.YtimkfnaodbfjmaaDoor
namespace Rows

/-- THE TIED CARD OF 'subeditorlaw01.UtfBack'. -/
def utfBackCard : Claim7 := { stood := { row := utfBackRow, standIns := [], harness := (true, "7c9395a39ed968d7239556530715c3d4bb35e19e9b2323f914e782ba6551127b"), looks := false }, kinds := [], alts := [], laidByText := true, laidKinds := [.data, .pinned], laidTests := true, laidLooks := .later }
def UtfBackCardSaid : Prop := Claim7.holds Tryd.pinned (.plain (OpenSpec.ofChange utfBackSpec)) utfBackCard

/-- THE TIED CARD OF 'subeditorlaw01.UtfLines'. -/
def utfLinesCard : Claim7 := { stood := { row := utfLinesRow, standIns := [], harness := (true, "7c9395a39ed968d7239556530715c3d4bb35e19e9b2323f914e782ba6551127b"), looks := false }, kinds := [], alts := [], laidByText := true, laidKinds := [.data, .pinned], laidTests := true, laidLooks := .later }
def UtfLinesCardSaid : Prop := Claim7.holds Tryd.pinned (.plain (OpenSpec.ofChange utfLinesSpec)) utfLinesCard

/-- THE TIED CARD OF 'subeditorlaw01.UtfColumns'. -/
def utfColumnsCard : Claim7 := { stood := { row := utfColumnsRow, standIns := [], harness := (true, "7c9395a39ed968d7239556530715c3d4bb35e19e9b2323f914e782ba6551127b"), looks := false }, kinds := [], alts := [], laidByText := true, laidKinds := [.data, .pinned], laidTests := true, laidLooks := .later }
def UtfColumnsCardSaid : Prop := Claim7.holds Tryd.pinned (.plain (OpenSpec.ofChange utfColumnsSpec)) utfColumnsCard

/-- THE TIED CARD OF 'subeditorlaw01.UtfAsks'. -/
def utfAsksCard : Claim7 := { stood := { row := utfAsksRow, standIns := [], harness := (true, "7c9395a39ed968d7239556530715c3d4bb35e19e9b2323f914e782ba6551127b"), looks := false }, kinds := [], alts := [], laidByText := true, laidKinds := [.data, .pinned], laidTests := true, laidLooks := .later }
def UtfAsksCardSaid : Prop := Claim7.holds Tryd.pinned (.plain (OpenSpec.ofChange utfAsksSpec)) utfAsksCard

/-- THE TIED CARD OF 'subeditorlaw01.UtfJoin'. -/
def utfJoinCard : Claim7 := { stood := { row := utfJoinRow, standIns := [], harness := (true, "7c9395a39ed968d7239556530715c3d4bb35e19e9b2323f914e782ba6551127b"), looks := false }, kinds := [], alts := [], laidByText := true, laidKinds := [.data, .pinned], laidTests := true, laidLooks := .later }
def UtfJoinCardSaid : Prop := Claim7.holds Tryd.pinned (.plain (OpenSpec.ofChange utfJoinSpec)) utfJoinCard

/-- THE TIED CARD OF 'subeditorlaw01.UtfFirst'. -/
def utfFirstCard : Claim7 := { stood := { row := utfFirstRow, standIns := [], harness := (true, "7c9395a39ed968d7239556530715c3d4bb35e19e9b2323f914e782ba6551127b"), looks := false }, kinds := [], alts := [], laidByText := true, laidKinds := [.data, .pinned], laidTests := true, laidLooks := .later }
def UtfFirstCardSaid : Prop := Claim7.holds Tryd.pinned (.plain (OpenSpec.ofChange utfFirstSpec)) utfFirstCard

/-- THE SECOND FORM's CARD OF 'subeditorlaw01.UtfBack'. -/
def utfBackUptoCard : Claim7 := { stood := { row := utfBackUptoRow, standIns := [], harness := (true, "7c9395a39ed968d7239556530715c3d4bb35e19e9b2323f914e782ba6551127b"), looks := false }, kinds := [], alts := [], laidByText := true, laidKinds := [.data, .pinned], laidTests := true, laidLooks := .later }
def UtfBackUptoCardSaid : Prop := Claim7.holds Tryd.pinned (.plain (OpenSpec.upto utfBackSpec)) utfBackUptoCard

/-- THE SECOND FORM's CARD OF 'subeditorlaw01.UtfLines'. -/
def utfLinesUptoCard : Claim7 := { stood := { row := utfLinesUptoRow, standIns := [], harness := (true, "7c9395a39ed968d7239556530715c3d4bb35e19e9b2323f914e782ba6551127b"), looks := false }, kinds := [], alts := [], laidByText := true, laidKinds := [.data, .pinned], laidTests := true, laidLooks := .later }
def UtfLinesUptoCardSaid : Prop := Claim7.holds Tryd.pinned (.plain (OpenSpec.upto utfLinesSpec)) utfLinesUptoCard

/-- THE SECOND FORM's CARD OF 'subeditorlaw01.UtfColumns'. -/
def utfColumnsUptoCard : Claim7 := { stood := { row := utfColumnsUptoRow, standIns := [], harness := (true, "7c9395a39ed968d7239556530715c3d4bb35e19e9b2323f914e782ba6551127b"), looks := false }, kinds := [], alts := [], laidByText := true, laidKinds := [.data, .pinned], laidTests := true, laidLooks := .later }
def UtfColumnsUptoCardSaid : Prop := Claim7.holds Tryd.pinned (.plain (OpenSpec.upto utfColumnsSpec)) utfColumnsUptoCard

/-- THE SECOND FORM's CARD OF 'subeditorlaw01.UtfAsks'. -/
def utfAsksUptoCard : Claim7 := { stood := { row := utfAsksUptoRow, standIns := [], harness := (true, "7c9395a39ed968d7239556530715c3d4bb35e19e9b2323f914e782ba6551127b"), looks := false }, kinds := [], alts := [], laidByText := true, laidKinds := [.data, .pinned], laidTests := true, laidLooks := .later }
def UtfAsksUptoCardSaid : Prop := Claim7.holds Tryd.pinned (.plain (OpenSpec.upto utfAsksSpec)) utfAsksUptoCard

/-- THE SECOND FORM's CARD OF 'subeditorlaw01.UtfJoin'. -/
def utfJoinUptoCard : Claim7 := { stood := { row := utfJoinUptoRow, standIns := [], harness := (true, "7c9395a39ed968d7239556530715c3d4bb35e19e9b2323f914e782ba6551127b"), looks := false }, kinds := [], alts := [], laidByText := true, laidKinds := [.data, .pinned], laidTests := true, laidLooks := .later }
def UtfJoinUptoCardSaid : Prop := Claim7.holds Tryd.pinned (.plain (OpenSpec.upto utfJoinSpec)) utfJoinUptoCard

/-- THE SECOND FORM's CARD OF 'subeditorlaw01.UtfFirst'. -/
def utfFirstUptoCard : Claim7 := { stood := { row := utfFirstUptoRow, standIns := [], harness := (true, "7c9395a39ed968d7239556530715c3d4bb35e19e9b2323f914e782ba6551127b"), looks := false }, kinds := [], alts := [], laidByText := true, laidKinds := [.data, .pinned], laidTests := true, laidLooks := .later }
def UtfFirstUptoCardSaid : Prop := Claim7.holds Tryd.pinned (.plain (OpenSpec.upto utfFirstSpec)) utfFirstUptoCard
end Rows
end Go.Proofs.YtimkfnaodbfjmaaDoor
