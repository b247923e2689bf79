/-
  DropNotes, RUN: some of the cases, by what is left of the arguments. No condition.
-/
import Derived.Test.YtaahfplokcfncaaGreatDoorAmKnown
namespace Go.AM
open Go.Proofs
set_option maxRecDepth 100000

def DropNotesL4 : List Nat := [4]
theorem DropNotes_c4 : every (fun r => isTrue (run Tryz.prog E3 1000000 (.call 4 [.imod .u8 5 r] Heap.empty))) DropNotesL4 = true := by kernel_rfl

end Go.AM
