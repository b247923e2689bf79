/-
  RenameKeys, RUN: some of the cases, by what is left of the arguments. No condition.
-/
import Derived.Test.YtlkbeldimoinjaaGreatDoorAmKnown
namespace Go.AM
open Go.Proofs
set_option maxRecDepth 100000

def RenameKeysL0 : List Nat := [0, 1]
theorem RenameKeys_c0 : every (fun r => isTrue (run Tryz.prog E6 1000000 (.call 4 [.imod .u8 4 r] Heap.empty))) RenameKeysL0 = true := by kernel_rfl
def RenameKeysL1 : List Nat := [2, 3]
theorem RenameKeys_c1 : every (fun r => isTrue (run Tryz.prog E6 1000000 (.call 4 [.imod .u8 4 r] Heap.empty))) RenameKeysL1 = true := by kernel_rfl

end Go.AM
