/-
  DropNotes, RUN: some of the cases, by what is left of the arguments. No condition.
-/
import Derived.Test.YtaahfplokcfncaaGreatDoorAmKnown
namespace Go.AM
open Go.Proofs
set_option maxRecDepth 100000

def DropNotesL2 : List Nat := [2]
theorem DropNotes_c2 : every (fun r => isTrue (run Tryz.prog E3 1000000 (.call 4 [.imod .u8 5 r] Heap.empty))) DropNotesL2 = true := by kernel_rfl
def DropNotesL3 : List Nat := [3]
theorem DropNotes_c3 : every (fun r => isTrue (run Tryz.prog E3 1000000 (.call 4 [.imod .u8 5 r] Heap.empty))) DropNotesL3 = true := by kernel_rfl

end Go.AM
