/-
  RenameCatch, RUN: some of the cases, by what is left of the arguments. No condition.
-/
import Derived.Test.YtlkbeldimoinjaaGreatDoorAmKnown
namespace Go.AM
open Go.Proofs
set_option maxRecDepth 100000

def RenameCatchL2 : List Nat := [6, 7, 8]
theorem RenameCatch_c2 : every (fun r => isTrue (run Tryz.prog E6 1000000 (.call 3 [.imod .u8 12 r] Heap.empty))) RenameCatchL2 = true := by kernel_rfl
def RenameCatchL3 : List Nat := [9, 10, 11]
theorem RenameCatch_c3 : every (fun r => isTrue (run Tryz.prog E6 1000000 (.call 3 [.imod .u8 12 r] Heap.empty))) RenameCatchL3 = true := by kernel_rfl

end Go.AM
