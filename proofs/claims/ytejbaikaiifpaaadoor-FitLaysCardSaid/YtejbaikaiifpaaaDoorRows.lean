/-
  NARROWER THAN 'FOR EVERY INPUT', by the rows' own cells (each row's printed sentence says how): FitLays: laid · FitWords: laid · FitWide: laid · FitFew: laid · FitRows: laid.
  DERIVED. THE GIVEN ROWS OF THIS SEAT. 5 by the template 'for every input the law returns true; each argument reads behind the call as it read before'; 0 by the template 'total and deterministic' (their statements: YtejbaikaiifpaaaDoorTotals.lean).
  GIVEN WITH THE SEED: the statements are not yours to turn. If you find one false, say at which input.
  Laid BY PROGRAM, IN A SANDBOX (cutbox-rows.mjs): the forced cells as the released guide's own fill.sh prints them over the translation 5716d7b77ebffbfd… (all of the seat's roots in one cut). By AI agents, Wed Nov 11 2026. No macro, syntax, notation, axiom, sorry.
-/
import Derived.Test.YtejbaikaiifpaaaDoorChecked
import GoSem.PinnedTables
import GoSem.Claim
import GoSem.ClaimJoined
import GoSem.ClaimMapViews
import Derived.JoinedTies
import Derived.KernelRfl
namespace Go.Proofs.YtejbaikaiifpaaaDoor
/- THE CELL 'sum', in the pinned program and in every row, IS THE sha256 OF THE DUMP (.gsa) THAT YtejbaikaiifpaaaDoorProg.lean LOADS. Nothing in Lean hashes anything: it is a label: what it is worth is what the hold of that sum in a sandbox is worth. -/
noncomputable def Tryd.pinned : Pinned := { name := "ytejbaikaiifpaaadoor", sum := "5716d7b77ebffbfdf8d8a4fcdf9b3d4e6f1332bc1266ba6e608d295df1212c2a", checked := Tryd.checked }
namespace Rows
def none {H : Type} : Left H := { results := [], args := [] }

/- WHAT THE LISTED PACKAGE-LEVEL VARIABLES READ AS WHEN THE CALL BEGINS. Each datum BY PROGRAM (the guide's laid-datum.mjs) off the statement by which the dump's own 'gosem.cut.vars' lays the variable. In a bare row this is a premise. The card (YtejbaikaiifpaaaDoorCards.lean) ties it to the program's text. -/
def laid_unicode_utf8_acceptRanges {H : Type} : DataW H := .agg [.agg [.lit (.int .u8 128), .lit (.int .u8 191)], .agg [.lit (.int .u8 160), .lit (.int .u8 191)], .agg [.lit (.int .u8 128), .lit (.int .u8 159)], .agg [.lit (.int .u8 144), .lit (.int .u8 191)], .agg [.lit (.int .u8 128), .lit (.int .u8 143)], .agg [.lit (.int .u8 0), .lit (.int .u8 0)], .agg [.lit (.int .u8 0), .lit (.int .u8 0)], .agg [.lit (.int .u8 0), .lit (.int .u8 0)], .agg [.lit (.int .u8 0), .lit (.int .u8 0)], .agg [.lit (.int .u8 0), .lit (.int .u8 0)], .agg [.lit (.int .u8 0), .lit (.int .u8 0)], .agg [.lit (.int .u8 0), .lit (.int .u8 0)], .agg [.lit (.int .u8 0), .lit (.int .u8 0)], .agg [.lit (.int .u8 0), .lit (.int .u8 0)], .agg [.lit (.int .u8 0), .lit (.int .u8 0)], .agg [.lit (.int .u8 0), .lit (.int .u8 0)]]
/-- One of Go's own tables, pinned by name: the form's constant. -/
def laid_unicode_utf8_first : DataW Unit := Go.Pinned.utf8First

/-- 'subeditorlaw13.FitLays': WHATEVER THE INPUT: true; the input reads as it did. -/
def fitLaysSpec : ChangeSpec := { name := "fitLays", fn := fun _ => fun
  | [d1, d2, d3, d4, d5] => { results := [.lit (.bool true)], args := [d1, d2, d3, d4, d5] }
  | _ => none }
def fitLaysRow : OpenClaim := { program := "ytejbaikaiifpaaadoor", sum := "5716d7b77ebffbfdf8d8a4fcdf9b3d4e6f1332bc1266ba6e608d295df1212c2a", func := "subeditor/subeditorlaw13.FitLays", spec := "fitLays", inPlace := ["internal/abi.NoEscape", "internal/bytealg.MakeNoZero", "internal/bytealg.IndexByteString", "internal/bytealg.IndexString"], unfollowed := true, recurses := true, named := ["internal/bytealg.MaxLen", "unicode/utf8.first", "unicode/utf8.acceptRanges"], apart := false, laid := [("unicode/utf8.acceptRanges", laid_unicode_utf8_acceptRanges), ("unicode/utf8.first", laid_unicode_utf8_first)] }
def FitLaysSaid : Prop := fitLaysRow.holds Tryd.pinned (OpenSpec.ofChange fitLaysSpec)

/-- ITS FALSE NEIGHBOUR: 'it returns false'. Refute it at one input. -/
def fitLaysWrong : ChangeSpec := { name := "fitLays", fn := fun _ => fun
  | [d1, d2, d3, d4, d5] => { results := [.lit (.bool false)], args := [d1, d2, d3, d4, d5] }
  | _ => none }
def FitLaysWrongFalsely : Prop := fitLaysRow.holds Tryd.pinned (OpenSpec.ofChange fitLaysWrong)

/-- 'subeditorlaw13.FitWords': WHATEVER THE INPUT: true; the input reads as it did. -/
def fitWordsSpec : ChangeSpec := { name := "fitWords", fn := fun _ => fun
  | [d1, d2, d3] => { results := [.lit (.bool true)], args := [d1, d2, d3] }
  | _ => none }
def fitWordsRow : OpenClaim := { program := "ytejbaikaiifpaaadoor", sum := "5716d7b77ebffbfdf8d8a4fcdf9b3d4e6f1332bc1266ba6e608d295df1212c2a", func := "subeditor/subeditorlaw13.FitWords", spec := "fitWords", inPlace := ["internal/abi.NoEscape", "internal/bytealg.MakeNoZero", "internal/bytealg.IndexByteString", "internal/bytealg.IndexString"], unfollowed := true, recurses := true, named := ["internal/bytealg.MaxLen", "unicode/utf8.first", "unicode/utf8.acceptRanges"], apart := false, laid := [("unicode/utf8.acceptRanges", laid_unicode_utf8_acceptRanges), ("unicode/utf8.first", laid_unicode_utf8_first)] }
def FitWordsSaid : Prop := fitWordsRow.holds Tryd.pinned (OpenSpec.ofChange fitWordsSpec)

/-- ITS FALSE NEIGHBOUR: 'it returns false'. Refute it at one input. -/
def fitWordsWrong : ChangeSpec := { name := "fitWords", fn := fun _ => fun
  | [d1, d2, d3] => { results := [.lit (.bool false)], args := [d1, d2, d3] }
  | _ => none }
def FitWordsWrongFalsely : Prop := fitWordsRow.holds Tryd.pinned (OpenSpec.ofChange fitWordsWrong)

/-- 'subeditorlaw13.FitWide': WHATEVER THE INPUT: true; the input reads as it did. -/
def fitWideSpec : ChangeSpec := { name := "fitWide", fn := fun _ => fun
  | [d] => { results := [.lit (.bool true)], args := [d] }
  | _ => none }
def fitWideRow : OpenClaim := { program := "ytejbaikaiifpaaadoor", sum := "5716d7b77ebffbfdf8d8a4fcdf9b3d4e6f1332bc1266ba6e608d295df1212c2a", func := "subeditor/subeditorlaw13.FitWide", spec := "fitWide", inPlace := ["internal/abi.NoEscape", "internal/bytealg.MakeNoZero", "internal/bytealg.IndexByteString", "internal/bytealg.IndexString"], unfollowed := true, recurses := true, named := ["internal/bytealg.MaxLen", "unicode/utf8.first", "unicode/utf8.acceptRanges"], apart := false, laid := [("unicode/utf8.acceptRanges", laid_unicode_utf8_acceptRanges), ("unicode/utf8.first", laid_unicode_utf8_first)] }
def FitWideSaid : Prop := fitWideRow.holds Tryd.pinned (OpenSpec.ofChange fitWideSpec)

/-- ITS FALSE NEIGHBOUR: 'it returns false'. Refute it at one input. -/
def fitWideWrong : ChangeSpec := { name := "fitWide", fn := fun _ => fun
  | [d] => { results := [.lit (.bool false)], args := [d] }
  | _ => none }
def FitWideWrongFalsely : Prop := fitWideRow.holds Tryd.pinned (OpenSpec.ofChange fitWideWrong)

/-- 'subeditorlaw13.FitFew': WHATEVER THE INPUT: true; the input reads as it did. -/
def fitFewSpec : ChangeSpec := { name := "fitFew", fn := fun _ => fun
  | [d1, d2, d3] => { results := [.lit (.bool true)], args := [d1, d2, d3] }
  | _ => none }
def fitFewRow : OpenClaim := { program := "ytejbaikaiifpaaadoor", sum := "5716d7b77ebffbfdf8d8a4fcdf9b3d4e6f1332bc1266ba6e608d295df1212c2a", func := "subeditor/subeditorlaw13.FitFew", spec := "fitFew", inPlace := ["internal/abi.NoEscape", "internal/bytealg.MakeNoZero", "internal/bytealg.IndexByteString", "internal/bytealg.IndexString"], unfollowed := true, recurses := true, named := ["internal/bytealg.MaxLen", "unicode/utf8.first", "unicode/utf8.acceptRanges"], apart := false, laid := [("unicode/utf8.acceptRanges", laid_unicode_utf8_acceptRanges), ("unicode/utf8.first", laid_unicode_utf8_first)] }
def FitFewSaid : Prop := fitFewRow.holds Tryd.pinned (OpenSpec.ofChange fitFewSpec)

/-- ITS FALSE NEIGHBOUR: 'it returns false'. Refute it at one input. -/
def fitFewWrong : ChangeSpec := { name := "fitFew", fn := fun _ => fun
  | [d1, d2, d3] => { results := [.lit (.bool false)], args := [d1, d2, d3] }
  | _ => none }
def FitFewWrongFalsely : Prop := fitFewRow.holds Tryd.pinned (OpenSpec.ofChange fitFewWrong)

/-- 'subeditorlaw13.FitRows': WHATEVER THE INPUT: true; the input reads as it did. -/
def fitRowsSpec : ChangeSpec := { name := "fitRows", fn := fun _ => fun
  | [d1, d2, d3] => { results := [.lit (.bool true)], args := [d1, d2, d3] }
  | _ => none }
def fitRowsRow : OpenClaim := { program := "ytejbaikaiifpaaadoor", sum := "5716d7b77ebffbfdf8d8a4fcdf9b3d4e6f1332bc1266ba6e608d295df1212c2a", func := "subeditor/subeditorlaw13.FitRows", spec := "fitRows", inPlace := ["internal/abi.NoEscape", "internal/bytealg.MakeNoZero", "internal/bytealg.IndexByteString", "internal/bytealg.IndexString"], unfollowed := true, recurses := true, named := ["internal/bytealg.MaxLen", "unicode/utf8.first", "unicode/utf8.acceptRanges"], apart := false, laid := [("unicode/utf8.acceptRanges", laid_unicode_utf8_acceptRanges), ("unicode/utf8.first", laid_unicode_utf8_first)] }
def FitRowsSaid : Prop := fitRowsRow.holds Tryd.pinned (OpenSpec.ofChange fitRowsSpec)

/-- ITS FALSE NEIGHBOUR: 'it returns false'. Refute it at one input. -/
def fitRowsWrong : ChangeSpec := { name := "fitRows", fn := fun _ => fun
  | [d1, d2, d3] => { results := [.lit (.bool false)], args := [d1, d2, d3] }
  | _ => none }
def FitRowsWrongFalsely : Prop := fitRowsRow.holds Tryd.pinned (OpenSpec.ofChange fitRowsWrong)

/- THE SECOND FORM. 'bulk': how many values and letters a reading holds, each counted each time it is reached (what is shared counts as often as it is met; a slice's spare places count too). A statement '..UptoSaid' is the law's where the arguments, and the package variables that the reading takes, are together of bulk at most 1048576: NARROWER than '..Said'. Prove '..Said' where nothing that the law and all that it calls make is longer than what came in: it says more and counts as full. Else prove '..UptoSaid'. A law counts once. -/
mutual
def uptoBulk {H : Type} : DataW H → Nat
  | .lit (.string bytes) => bytes.length + 1
  | .lit _ => 1
  | .nil => 1
  | .ptr d => uptoBulk d + 1
  | .slice elems spare => uptoBulkAll elems + uptoBulkAll spare + 1
  | .agg parts => uptoBulkAll parts + 1
  | .iface _ d => uptoBulk d + 1
  | .map entries => uptoBulkEntries entries + 1
  | .held _ => 1
def uptoBulkAll {H : Type} : List (DataW H) → Nat
  | [] => 0
  | d :: r => uptoBulk d + uptoBulkAll r
def uptoBulkEntries {H : Type} : List (Lit × DataW H) → Nat
  | [] => 0
  | x :: r => uptoBulkEntry x + uptoBulkEntries r
def uptoBulkEntry {H : Type} : Lit × DataW H → Nat
  | (.string bytes, d) => bytes.length + uptoBulk d + 1
  | (_, d) => uptoBulk d + 1
 end
def uptoSmall : (H : Type) → List (DataW H) → Bool := fun _ ds => decide (uptoBulkAll ds ≤ 1048576)
def OpenSpec.upto (s : _root_.Go.ChangeSpec) : _root_.Go.OpenSpec := { _root_.Go.OpenSpec.ofChange s with cond := some uptoSmall }

/-- 'subeditorlaw13.FitLays', WHERE WHAT IT READS IS OF BULK AT MOST 1048576: true; the input reads as it did. -/
def fitLaysUptoRow : OpenClaim := { program := "ytejbaikaiifpaaadoor", sum := "5716d7b77ebffbfdf8d8a4fcdf9b3d4e6f1332bc1266ba6e608d295df1212c2a", func := "subeditor/subeditorlaw13.FitLays", spec := "fitLays", inPlace := ["internal/abi.NoEscape", "internal/bytealg.MakeNoZero", "internal/bytealg.IndexByteString", "internal/bytealg.IndexString"], unfollowed := true, recurses := true, named := ["internal/bytealg.MaxLen", "unicode/utf8.first", "unicode/utf8.acceptRanges"], apart := false, laid := [("unicode/utf8.acceptRanges", laid_unicode_utf8_acceptRanges), ("unicode/utf8.first", laid_unicode_utf8_first)], narrowed := true }
def FitLaysUptoSaid : Prop := fitLaysUptoRow.holds Tryd.pinned (OpenSpec.upto fitLaysSpec)

/-- 'subeditorlaw13.FitWords', WHERE WHAT IT READS IS OF BULK AT MOST 1048576: true; the input reads as it did. -/
def fitWordsUptoRow : OpenClaim := { program := "ytejbaikaiifpaaadoor", sum := "5716d7b77ebffbfdf8d8a4fcdf9b3d4e6f1332bc1266ba6e608d295df1212c2a", func := "subeditor/subeditorlaw13.FitWords", spec := "fitWords", inPlace := ["internal/abi.NoEscape", "internal/bytealg.MakeNoZero", "internal/bytealg.IndexByteString", "internal/bytealg.IndexString"], unfollowed := true, recurses := true, named := ["internal/bytealg.MaxLen", "unicode/utf8.first", "unicode/utf8.acceptRanges"], apart := false, laid := [("unicode/utf8.acceptRanges", laid_unicode_utf8_acceptRanges), ("unicode/utf8.first", laid_unicode_utf8_first)], narrowed := true }
def FitWordsUptoSaid : Prop := fitWordsUptoRow.holds Tryd.pinned (OpenSpec.upto fitWordsSpec)

/-- 'subeditorlaw13.FitWide', WHERE WHAT IT READS IS OF BULK AT MOST 1048576: true; the input reads as it did. -/
def fitWideUptoRow : OpenClaim := { program := "ytejbaikaiifpaaadoor", sum := "5716d7b77ebffbfdf8d8a4fcdf9b3d4e6f1332bc1266ba6e608d295df1212c2a", func := "subeditor/subeditorlaw13.FitWide", spec := "fitWide", inPlace := ["internal/abi.NoEscape", "internal/bytealg.MakeNoZero", "internal/bytealg.IndexByteString", "internal/bytealg.IndexString"], unfollowed := true, recurses := true, named := ["internal/bytealg.MaxLen", "unicode/utf8.first", "unicode/utf8.acceptRanges"], apart := false, laid := [("unicode/utf8.acceptRanges", laid_unicode_utf8_acceptRanges), ("unicode/utf8.first", laid_unicode_utf8_first)], narrowed := true }
def FitWideUptoSaid : Prop := fitWideUptoRow.holds Tryd.pinned (OpenSpec.upto fitWideSpec)

/-- 'subeditorlaw13.FitFew', WHERE WHAT IT READS IS OF BULK AT MOST 1048576: true; the input reads as it did. -/
def fitFewUptoRow : OpenClaim := { program := "ytejbaikaiifpaaadoor", sum := "5716d7b77ebffbfdf8d8a4fcdf9b3d4e6f1332bc1266ba6e608d295df1212c2a", func := "subeditor/subeditorlaw13.FitFew", spec := "fitFew", inPlace := ["internal/abi.NoEscape", "internal/bytealg.MakeNoZero", "internal/bytealg.IndexByteString", "internal/bytealg.IndexString"], unfollowed := true, recurses := true, named := ["internal/bytealg.MaxLen", "unicode/utf8.first", "unicode/utf8.acceptRanges"], apart := false, laid := [("unicode/utf8.acceptRanges", laid_unicode_utf8_acceptRanges), ("unicode/utf8.first", laid_unicode_utf8_first)], narrowed := true }
def FitFewUptoSaid : Prop := fitFewUptoRow.holds Tryd.pinned (OpenSpec.upto fitFewSpec)

/-- 'subeditorlaw13.FitRows', WHERE WHAT IT READS IS OF BULK AT MOST 1048576: true; the input reads as it did. -/
def fitRowsUptoRow : OpenClaim := { program := "ytejbaikaiifpaaadoor", sum := "5716d7b77ebffbfdf8d8a4fcdf9b3d4e6f1332bc1266ba6e608d295df1212c2a", func := "subeditor/subeditorlaw13.FitRows", spec := "fitRows", inPlace := ["internal/abi.NoEscape", "internal/bytealg.MakeNoZero", "internal/bytealg.IndexByteString", "internal/bytealg.IndexString"], unfollowed := true, recurses := true, named := ["internal/bytealg.MaxLen", "unicode/utf8.first", "unicode/utf8.acceptRanges"], apart := false, laid := [("unicode/utf8.acceptRanges", laid_unicode_utf8_acceptRanges), ("unicode/utf8.first", laid_unicode_utf8_first)], narrowed := true }
def FitRowsUptoSaid : Prop := fitRowsUptoRow.holds Tryd.pinned (OpenSpec.upto fitRowsSpec)

end Rows
end Go.Proofs.YtejbaikaiifpaaaDoor
