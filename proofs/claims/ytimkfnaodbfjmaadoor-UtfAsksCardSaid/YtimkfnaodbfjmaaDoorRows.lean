/-
  NARROWER THAN 'FOR EVERY INPUT', by the rows' own cells (each row's printed sentence says how): UtfBack: laid · UtfLines: laid · UtfColumns: laid · UtfAsks: laid · UtfJoin: laid · UtfFirst: laid.
  DERIVED. THE GIVEN ROWS OF THIS SEAT. 6 by the template 'for every input the law returns true; each argument reads behind the call as it read before'; 0 by the template 'total and deterministic' (their statements: YtimkfnaodbfjmaaDoorTotals.lean).
  GIVEN WITH THE SEED: the statements are not yours to turn. If you find one false, say at which input.
  Laid BY PROGRAM, IN A SANDBOX (cutbox-rows.mjs): the forced cells as the released guide's own fill.sh prints them over the translation 1144249ef25ab2a7… (all of the seat's roots in one cut). By AI agents, Wed Nov 11 2026. No macro, syntax, notation, axiom, sorry.
-/
import Derived.Test.YtimkfnaodbfjmaaDoorChecked
import GoSem.PinnedTables
import GoSem.Claim
import GoSem.ClaimJoined
import GoSem.ClaimMapViews
import Derived.JoinedTies
import Derived.KernelRfl
namespace Go.Proofs.YtimkfnaodbfjmaaDoor
/- THE CELL 'sum', in the pinned program and in every row, IS THE sha256 OF THE DUMP (.gsa) THAT YtimkfnaodbfjmaaDoorProg.lean LOADS. Nothing in Lean hashes anything: it is a label: what it is worth is what the hold of that sum in a sandbox is worth. -/
noncomputable def Tryd.pinned : Pinned := { name := "ytimkfnaodbfjmaadoor", sum := "1144249ef25ab2a76feb416d7eb929c53a1bdb9182b335227c5cee4fd31b1a39", checked := Tryd.checked }
namespace Rows
def none {H : Type} : Left H := { results := [], args := [] }

/- WHAT THE LISTED PACKAGE-LEVEL VARIABLES READ AS WHEN THE CALL BEGINS. Each datum BY PROGRAM (the guide's laid-datum.mjs) off the statement by which the dump's own 'gosem.cut.vars' lays the variable. In a bare row this is a premise. The card (YtimkfnaodbfjmaaDoorCards.lean) ties it to the program's text. -/
def laid_unicode_utf8_acceptRanges {H : Type} : DataW H := .agg [.agg [.lit (.int .u8 128), .lit (.int .u8 191)], .agg [.lit (.int .u8 160), .lit (.int .u8 191)], .agg [.lit (.int .u8 128), .lit (.int .u8 159)], .agg [.lit (.int .u8 144), .lit (.int .u8 191)], .agg [.lit (.int .u8 128), .lit (.int .u8 143)], .agg [.lit (.int .u8 0), .lit (.int .u8 0)], .agg [.lit (.int .u8 0), .lit (.int .u8 0)], .agg [.lit (.int .u8 0), .lit (.int .u8 0)], .agg [.lit (.int .u8 0), .lit (.int .u8 0)], .agg [.lit (.int .u8 0), .lit (.int .u8 0)], .agg [.lit (.int .u8 0), .lit (.int .u8 0)], .agg [.lit (.int .u8 0), .lit (.int .u8 0)], .agg [.lit (.int .u8 0), .lit (.int .u8 0)], .agg [.lit (.int .u8 0), .lit (.int .u8 0)], .agg [.lit (.int .u8 0), .lit (.int .u8 0)], .agg [.lit (.int .u8 0), .lit (.int .u8 0)]]
/-- One of Go's own tables, pinned by name: the form's constant. -/
def laid_unicode_utf8_first : DataW Unit := Go.Pinned.utf8First

/-- 'subeditorlaw01.UtfBack': WHATEVER THE INPUT: true; the input reads as it did. -/
def utfBackSpec : ChangeSpec := { name := "utfBack", fn := fun _ => fun
  | [d1, d2] => { results := [.lit (.bool true)], args := [d1, d2] }
  | _ => none }
def utfBackRow : OpenClaim := { program := "ytimkfnaodbfjmaadoor", sum := "1144249ef25ab2a76feb416d7eb929c53a1bdb9182b335227c5cee4fd31b1a39", func := "subeditor/subeditorlaw01.UtfBack", spec := "utfBack", inPlace := ["internal/bytealg.CountString", "internal/bytealg.IndexByteString", "internal/bytealg.IndexString"], unfollowed := true, recurses := true, named := ["internal/bytealg.MaxLen", "unicode/utf8.first", "unicode/utf8.acceptRanges"], apart := false, laid := [("unicode/utf8.acceptRanges", laid_unicode_utf8_acceptRanges), ("unicode/utf8.first", laid_unicode_utf8_first)] }
def UtfBackSaid : Prop := utfBackRow.holds Tryd.pinned (OpenSpec.ofChange utfBackSpec)

/-- ITS FALSE NEIGHBOUR: 'it returns false'. Refute it at one input. -/
def utfBackWrong : ChangeSpec := { name := "utfBack", fn := fun _ => fun
  | [d1, d2] => { results := [.lit (.bool false)], args := [d1, d2] }
  | _ => none }
def UtfBackWrongFalsely : Prop := utfBackRow.holds Tryd.pinned (OpenSpec.ofChange utfBackWrong)

/-- 'subeditorlaw01.UtfLines': WHATEVER THE INPUT: true; the input reads as it did. -/
def utfLinesSpec : ChangeSpec := { name := "utfLines", fn := fun _ => fun
  | [d] => { results := [.lit (.bool true)], args := [d] }
  | _ => none }
def utfLinesRow : OpenClaim := { program := "ytimkfnaodbfjmaadoor", sum := "1144249ef25ab2a76feb416d7eb929c53a1bdb9182b335227c5cee4fd31b1a39", func := "subeditor/subeditorlaw01.UtfLines", spec := "utfLines", inPlace := ["internal/bytealg.CountString", "internal/bytealg.IndexByteString", "internal/bytealg.IndexString"], unfollowed := true, recurses := true, named := ["internal/bytealg.MaxLen", "unicode/utf8.first", "unicode/utf8.acceptRanges"], apart := false, laid := [("unicode/utf8.acceptRanges", laid_unicode_utf8_acceptRanges), ("unicode/utf8.first", laid_unicode_utf8_first)] }
def UtfLinesSaid : Prop := utfLinesRow.holds Tryd.pinned (OpenSpec.ofChange utfLinesSpec)

/-- ITS FALSE NEIGHBOUR: 'it returns false'. Refute it at one input. -/
def utfLinesWrong : ChangeSpec := { name := "utfLines", fn := fun _ => fun
  | [d] => { results := [.lit (.bool false)], args := [d] }
  | _ => none }
def UtfLinesWrongFalsely : Prop := utfLinesRow.holds Tryd.pinned (OpenSpec.ofChange utfLinesWrong)

/-- 'subeditorlaw01.UtfColumns': WHATEVER THE INPUT: true; the input reads as it did. -/
def utfColumnsSpec : ChangeSpec := { name := "utfColumns", fn := fun _ => fun
  | [d1, d2, d3] => { results := [.lit (.bool true)], args := [d1, d2, d3] }
  | _ => none }
def utfColumnsRow : OpenClaim := { program := "ytimkfnaodbfjmaadoor", sum := "1144249ef25ab2a76feb416d7eb929c53a1bdb9182b335227c5cee4fd31b1a39", func := "subeditor/subeditorlaw01.UtfColumns", spec := "utfColumns", inPlace := ["internal/bytealg.IndexByteString", "internal/bytealg.IndexString", "internal/bytealg.CountString"], unfollowed := true, recurses := true, named := ["unicode/utf8.first", "unicode/utf8.acceptRanges", "internal/bytealg.MaxLen"], apart := false, laid := [("unicode/utf8.acceptRanges", laid_unicode_utf8_acceptRanges), ("unicode/utf8.first", laid_unicode_utf8_first)] }
def UtfColumnsSaid : Prop := utfColumnsRow.holds Tryd.pinned (OpenSpec.ofChange utfColumnsSpec)

/-- ITS FALSE NEIGHBOUR: 'it returns false'. Refute it at one input. -/
def utfColumnsWrong : ChangeSpec := { name := "utfColumns", fn := fun _ => fun
  | [d1, d2, d3] => { results := [.lit (.bool false)], args := [d1, d2, d3] }
  | _ => none }
def UtfColumnsWrongFalsely : Prop := utfColumnsRow.holds Tryd.pinned (OpenSpec.ofChange utfColumnsWrong)

/-- 'subeditorlaw01.UtfAsks': WHATEVER THE INPUT: true; the input reads as it did. -/
def utfAsksSpec : ChangeSpec := { name := "utfAsks", fn := fun _ => fun
  | [d1, d2, d3, d4, d5, d6] => { results := [.lit (.bool true)], args := [d1, d2, d3, d4, d5, d6] }
  | _ => none }
def utfAsksRow : OpenClaim := { program := "ytimkfnaodbfjmaadoor", sum := "1144249ef25ab2a76feb416d7eb929c53a1bdb9182b335227c5cee4fd31b1a39", func := "subeditor/subeditorlaw01.UtfAsks", spec := "utfAsks", inPlace := ["internal/bytealg.CountString", "internal/bytealg.IndexByteString", "internal/bytealg.IndexString"], unfollowed := true, recurses := true, named := ["internal/bytealg.MaxLen", "unicode/utf8.first", "unicode/utf8.acceptRanges"], apart := false, laid := [("unicode/utf8.acceptRanges", laid_unicode_utf8_acceptRanges), ("unicode/utf8.first", laid_unicode_utf8_first)] }
def UtfAsksSaid : Prop := utfAsksRow.holds Tryd.pinned (OpenSpec.ofChange utfAsksSpec)

/-- ITS FALSE NEIGHBOUR: 'it returns false'. Refute it at one input. -/
def utfAsksWrong : ChangeSpec := { name := "utfAsks", fn := fun _ => fun
  | [d1, d2, d3, d4, d5, d6] => { results := [.lit (.bool false)], args := [d1, d2, d3, d4, d5, d6] }
  | _ => none }
def UtfAsksWrongFalsely : Prop := utfAsksRow.holds Tryd.pinned (OpenSpec.ofChange utfAsksWrong)

/-- 'subeditorlaw01.UtfJoin': WHATEVER THE INPUT: true; the input reads as it did. -/
def utfJoinSpec : ChangeSpec := { name := "utfJoin", fn := fun _ => fun
  | [d1, d2] => { results := [.lit (.bool true)], args := [d1, d2] }
  | _ => none }
def utfJoinRow : OpenClaim := { program := "ytimkfnaodbfjmaadoor", sum := "1144249ef25ab2a76feb416d7eb929c53a1bdb9182b335227c5cee4fd31b1a39", func := "subeditor/subeditorlaw01.UtfJoin", spec := "utfJoin", inPlace := ["internal/bytealg.IndexByteString", "internal/bytealg.IndexString", "internal/bytealg.CountString"], unfollowed := true, recurses := true, named := ["unicode/utf8.first", "unicode/utf8.acceptRanges", "internal/bytealg.MaxLen"], apart := false, laid := [("unicode/utf8.acceptRanges", laid_unicode_utf8_acceptRanges), ("unicode/utf8.first", laid_unicode_utf8_first)] }
def UtfJoinSaid : Prop := utfJoinRow.holds Tryd.pinned (OpenSpec.ofChange utfJoinSpec)

/-- ITS FALSE NEIGHBOUR: 'it returns false'. Refute it at one input. -/
def utfJoinWrong : ChangeSpec := { name := "utfJoin", fn := fun _ => fun
  | [d1, d2] => { results := [.lit (.bool false)], args := [d1, d2] }
  | _ => none }
def UtfJoinWrongFalsely : Prop := utfJoinRow.holds Tryd.pinned (OpenSpec.ofChange utfJoinWrong)

/-- 'subeditorlaw01.UtfFirst': WHATEVER THE INPUT: true; the input reads as it did. -/
def utfFirstSpec : ChangeSpec := { name := "utfFirst", fn := fun _ => fun
  | [d] => { results := [.lit (.bool true)], args := [d] }
  | _ => none }
def utfFirstRow : OpenClaim := { program := "ytimkfnaodbfjmaadoor", sum := "1144249ef25ab2a76feb416d7eb929c53a1bdb9182b335227c5cee4fd31b1a39", func := "subeditor/subeditorlaw01.UtfFirst", spec := "utfFirst", inPlace := ["internal/bytealg.CountString", "internal/bytealg.IndexByteString", "internal/bytealg.IndexString"], unfollowed := true, recurses := true, named := ["internal/bytealg.MaxLen", "unicode/utf8.first", "unicode/utf8.acceptRanges"], apart := false, laid := [("unicode/utf8.acceptRanges", laid_unicode_utf8_acceptRanges), ("unicode/utf8.first", laid_unicode_utf8_first)] }
def UtfFirstSaid : Prop := utfFirstRow.holds Tryd.pinned (OpenSpec.ofChange utfFirstSpec)

/-- ITS FALSE NEIGHBOUR: 'it returns false'. Refute it at one input. -/
def utfFirstWrong : ChangeSpec := { name := "utfFirst", fn := fun _ => fun
  | [d] => { results := [.lit (.bool false)], args := [d] }
  | _ => none }
def UtfFirstWrongFalsely : Prop := utfFirstRow.holds Tryd.pinned (OpenSpec.ofChange utfFirstWrong)

/- THE SECOND FORM. 'bulk': how many values and letters a reading holds, each counted each time it is reached (what is shared counts as often as it is met; a slice's spare places count too). A statement '..UptoSaid' is the law's where the arguments, and the package variables that the reading takes, are together of bulk at most 1048576: NARROWER than '..Said'. Prove '..Said' where nothing that the law and all that it calls make is longer than what came in: it says more and counts as full. Else prove '..UptoSaid'. A law counts once. -/
mutual
def uptoBulk {H : Type} : DataW H → Nat
  | .lit (.string bytes) => bytes.length + 1
  | .lit _ => 1
  | .nil => 1
  | .ptr d => uptoBulk d + 1
  | .slice elems spare => uptoBulkAll elems + uptoBulkAll spare + 1
  | .agg parts => uptoBulkAll parts + 1
  | .iface _ d => uptoBulk d + 1
  | .map entries => uptoBulkEntries entries + 1
  | .held _ => 1
def uptoBulkAll {H : Type} : List (DataW H) → Nat
  | [] => 0
  | d :: r => uptoBulk d + uptoBulkAll r
def uptoBulkEntries {H : Type} : List (Lit × DataW H) → Nat
  | [] => 0
  | x :: r => uptoBulkEntry x + uptoBulkEntries r
def uptoBulkEntry {H : Type} : Lit × DataW H → Nat
  | (.string bytes, d) => bytes.length + uptoBulk d + 1
  | (_, d) => uptoBulk d + 1
 end
def uptoSmall : (H : Type) → List (DataW H) → Bool := fun _ ds => decide (uptoBulkAll ds ≤ 1048576)
def OpenSpec.upto (s : _root_.Go.ChangeSpec) : _root_.Go.OpenSpec := { _root_.Go.OpenSpec.ofChange s with cond := some uptoSmall }

/-- 'subeditorlaw01.UtfBack', WHERE WHAT IT READS IS OF BULK AT MOST 1048576: true; the input reads as it did. -/
def utfBackUptoRow : OpenClaim := { program := "ytimkfnaodbfjmaadoor", sum := "1144249ef25ab2a76feb416d7eb929c53a1bdb9182b335227c5cee4fd31b1a39", func := "subeditor/subeditorlaw01.UtfBack", spec := "utfBack", inPlace := ["internal/bytealg.CountString", "internal/bytealg.IndexByteString", "internal/bytealg.IndexString"], unfollowed := true, recurses := true, named := ["internal/bytealg.MaxLen", "unicode/utf8.first", "unicode/utf8.acceptRanges"], apart := false, laid := [("unicode/utf8.acceptRanges", laid_unicode_utf8_acceptRanges), ("unicode/utf8.first", laid_unicode_utf8_first)], narrowed := true }
def UtfBackUptoSaid : Prop := utfBackUptoRow.holds Tryd.pinned (OpenSpec.upto utfBackSpec)

/-- 'subeditorlaw01.UtfLines', WHERE WHAT IT READS IS OF BULK AT MOST 1048576: true; the input reads as it did. -/
def utfLinesUptoRow : OpenClaim := { program := "ytimkfnaodbfjmaadoor", sum := "1144249ef25ab2a76feb416d7eb929c53a1bdb9182b335227c5cee4fd31b1a39", func := "subeditor/subeditorlaw01.UtfLines", spec := "utfLines", inPlace := ["internal/bytealg.CountString", "internal/bytealg.IndexByteString", "internal/bytealg.IndexString"], unfollowed := true, recurses := true, named := ["internal/bytealg.MaxLen", "unicode/utf8.first", "unicode/utf8.acceptRanges"], apart := false, laid := [("unicode/utf8.acceptRanges", laid_unicode_utf8_acceptRanges), ("unicode/utf8.first", laid_unicode_utf8_first)], narrowed := true }
def UtfLinesUptoSaid : Prop := utfLinesUptoRow.holds Tryd.pinned (OpenSpec.upto utfLinesSpec)

/-- 'subeditorlaw01.UtfColumns', WHERE WHAT IT READS IS OF BULK AT MOST 1048576: true; the input reads as it did. -/
def utfColumnsUptoRow : OpenClaim := { program := "ytimkfnaodbfjmaadoor", sum := "1144249ef25ab2a76feb416d7eb929c53a1bdb9182b335227c5cee4fd31b1a39", func := "subeditor/subeditorlaw01.UtfColumns", spec := "utfColumns", inPlace := ["internal/bytealg.IndexByteString", "internal/bytealg.IndexString", "internal/bytealg.CountString"], unfollowed := true, recurses := true, named := ["unicode/utf8.first", "unicode/utf8.acceptRanges", "internal/bytealg.MaxLen"], apart := false, laid := [("unicode/utf8.acceptRanges", laid_unicode_utf8_acceptRanges), ("unicode/utf8.first", laid_unicode_utf8_first)], narrowed := true }
def UtfColumnsUptoSaid : Prop := utfColumnsUptoRow.holds Tryd.pinned (OpenSpec.upto utfColumnsSpec)

/-- 'subeditorlaw01.UtfAsks', WHERE WHAT IT READS IS OF BULK AT MOST 1048576: true; the input reads as it did. -/
def utfAsksUptoRow : OpenClaim := { program := "ytimkfnaodbfjmaadoor", sum := "1144249ef25ab2a76feb416d7eb929c53a1bdb9182b335227c5cee4fd31b1a39", func := "subeditor/subeditorlaw01.UtfAsks", spec := "utfAsks", inPlace := ["internal/bytealg.CountString", "internal/bytealg.IndexByteString", "internal/bytealg.IndexString"], unfollowed := true, recurses := true, named := ["internal/bytealg.MaxLen", "unicode/utf8.first", "unicode/utf8.acceptRanges"], apart := false, laid := [("unicode/utf8.acceptRanges", laid_unicode_utf8_acceptRanges), ("unicode/utf8.first", laid_unicode_utf8_first)], narrowed := true }
def UtfAsksUptoSaid : Prop := utfAsksUptoRow.holds Tryd.pinned (OpenSpec.upto utfAsksSpec)

/-- 'subeditorlaw01.UtfJoin', WHERE WHAT IT READS IS OF BULK AT MOST 1048576: true; the input reads as it did. -/
def utfJoinUptoRow : OpenClaim := { program := "ytimkfnaodbfjmaadoor", sum := "1144249ef25ab2a76feb416d7eb929c53a1bdb9182b335227c5cee4fd31b1a39", func := "subeditor/subeditorlaw01.UtfJoin", spec := "utfJoin", inPlace := ["internal/bytealg.IndexByteString", "internal/bytealg.IndexString", "internal/bytealg.CountString"], unfollowed := true, recurses := true, named := ["unicode/utf8.first", "unicode/utf8.acceptRanges", "internal/bytealg.MaxLen"], apart := false, laid := [("unicode/utf8.acceptRanges", laid_unicode_utf8_acceptRanges), ("unicode/utf8.first", laid_unicode_utf8_first)], narrowed := true }
def UtfJoinUptoSaid : Prop := utfJoinUptoRow.holds Tryd.pinned (OpenSpec.upto utfJoinSpec)

/-- 'subeditorlaw01.UtfFirst', WHERE WHAT IT READS IS OF BULK AT MOST 1048576: true; the input reads as it did. -/
def utfFirstUptoRow : OpenClaim := { program := "ytimkfnaodbfjmaadoor", sum := "1144249ef25ab2a76feb416d7eb929c53a1bdb9182b335227c5cee4fd31b1a39", func := "subeditor/subeditorlaw01.UtfFirst", spec := "utfFirst", inPlace := ["internal/bytealg.CountString", "internal/bytealg.IndexByteString", "internal/bytealg.IndexString"], unfollowed := true, recurses := true, named := ["internal/bytealg.MaxLen", "unicode/utf8.first", "unicode/utf8.acceptRanges"], apart := false, laid := [("unicode/utf8.acceptRanges", laid_unicode_utf8_acceptRanges), ("unicode/utf8.first", laid_unicode_utf8_first)], narrowed := true }
def UtfFirstUptoSaid : Prop := utfFirstUptoRow.holds Tryd.pinned (OpenSpec.upto utfFirstSpec)

end Rows
end Go.Proofs.YtimkfnaodbfjmaaDoor
