/-
  DropOwn, RUN: some of the cases, by what is left of the arguments. No condition.
-/
import Derived.Test.YtaahfplokcfncaaGreatDoorAmKnown
namespace Go.AM
open Go.Proofs
set_option maxRecDepth 100000

def DropOwnL0 : List Nat := [0]
theorem DropOwn_c0 : every (fun r => isTrue (run Tryz.prog E5 1000000 (.call 3 [.imod .u8 6 r] Heap.empty))) DropOwnL0 = true := by kernel_rfl
def DropOwnL1 : List Nat := [1]
theorem DropOwn_c1 : every (fun r => isTrue (run Tryz.prog E5 1000000 (.call 3 [.imod .u8 6 r] Heap.empty))) DropOwnL1 = true := by kernel_rfl

end Go.AM
