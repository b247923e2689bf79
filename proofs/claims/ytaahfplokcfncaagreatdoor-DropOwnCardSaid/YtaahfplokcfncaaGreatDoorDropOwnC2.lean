/-
  DropOwn, RUN: some of the cases, by what is left of the arguments. No condition.
-/
import Derived.Test.YtaahfplokcfncaaGreatDoorAmKnown
namespace Go.AM
open Go.Proofs
set_option maxRecDepth 100000

def DropOwnL4 : List Nat := [4]
theorem DropOwn_c4 : every (fun r => isTrue (run Tryz.prog E5 1000000 (.call 3 [.imod .u8 6 r] Heap.empty))) DropOwnL4 = true := by kernel_rfl
def DropOwnL5 : List Nat := [5]
theorem DropOwn_c5 : every (fun r => isTrue (run Tryz.prog E5 1000000 (.call 3 [.imod .u8 6 r] Heap.empty))) DropOwnL5 = true := by kernel_rfl

end Go.AM
