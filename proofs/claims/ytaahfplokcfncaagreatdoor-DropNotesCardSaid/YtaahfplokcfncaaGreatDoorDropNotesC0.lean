/-
  DropNotes, RUN: some of the cases, by what is left of the arguments. No condition.
-/
import Derived.Test.YtaahfplokcfncaaGreatDoorAmKnown
namespace Go.AM
open Go.Proofs
set_option maxRecDepth 100000

def DropNotesL0 : List Nat := [0]
theorem DropNotes_c0 : every (fun r => isTrue (run Tryz.prog E3 1000000 (.call 4 [.imod .u8 5 r] Heap.empty))) DropNotesL0 = true := by kernel_rfl
def DropNotesL1 : List Nat := [1]
theorem DropNotes_c1 : every (fun r => isTrue (run Tryz.prog E3 1000000 (.call 4 [.imod .u8 5 r] Heap.empty))) DropNotesL1 = true := by kernel_rfl

end Go.AM
