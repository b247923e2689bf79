/-
  RenameCatch, RUN: some of the cases, by what is left of the arguments. No condition.
-/
import Derived.Test.YtlkbeldimoinjaaGreatDoorAmKnown
namespace Go.AM
open Go.Proofs
set_option maxRecDepth 100000

def RenameCatchL0 : List Nat := [0, 1, 2]
theorem RenameCatch_c0 : every (fun r => isTrue (run Tryz.prog E6 1000000 (.call 3 [.imod .u8 12 r] Heap.empty))) RenameCatchL0 = true := by kernel_rfl
def RenameCatchL1 : List Nat := [3, 4, 5]
theorem RenameCatch_c1 : every (fun r => isTrue (run Tryz.prog E6 1000000 (.call 3 [.imod .u8 12 r] Heap.empty))) RenameCatchL1 = true := by kernel_rfl

end Go.AM
