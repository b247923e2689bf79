/-
  ModsChain, RUN: some of the cases, by what is left of the arguments. No condition.
-/
import Derived.Test.YtehohdjoiomajaaGreatDoorAmKnown
namespace Go.AM
open Go.Proofs
set_option maxRecDepth 100000

def ModsChainL6 : List Nat := [6]
theorem ModsChain_c6 : every (fun r => isTrue (run Tryz.prog E4 1000000 (.call 4 [.imod .u8 9 r] Heap.empty))) ModsChainL6 = true := by kernel_rfl
def ModsChainL7 : List Nat := [7]
theorem ModsChain_c7 : every (fun r => isTrue (run Tryz.prog E4 1000000 (.call 4 [.imod .u8 9 r] Heap.empty))) ModsChainL7 = true := by kernel_rfl
def ModsChainL8 : List Nat := [8]
theorem ModsChain_c8 : every (fun r => isTrue (run Tryz.prog E4 1000000 (.call 4 [.imod .u8 9 r] Heap.empty))) ModsChainL8 = true := by kernel_rfl

end Go.AM
