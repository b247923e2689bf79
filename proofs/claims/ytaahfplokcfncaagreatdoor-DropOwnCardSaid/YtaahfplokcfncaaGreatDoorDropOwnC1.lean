/-
  DropOwn, RUN: some of the cases, by what is left of the arguments. No condition.
-/
import Derived.Test.YtaahfplokcfncaaGreatDoorAmKnown
namespace Go.AM
open Go.Proofs
set_option maxRecDepth 100000

def DropOwnL2 : List Nat := [2]
theorem DropOwn_c2 : every (fun r => isTrue (run Tryz.prog E5 1000000 (.call 3 [.imod .u8 6 r] Heap.empty))) DropOwnL2 = true := by kernel_rfl
def DropOwnL3 : List Nat := [3]
theorem DropOwn_c3 : every (fun r => isTrue (run Tryz.prog E5 1000000 (.call 3 [.imod .u8 6 r] Heap.empty))) DropOwnL3 = true := by kernel_rfl

end Go.AM
