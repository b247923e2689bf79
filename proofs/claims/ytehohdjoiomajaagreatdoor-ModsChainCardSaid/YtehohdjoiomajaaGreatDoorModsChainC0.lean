/-
  ModsChain, RUN: some of the cases, by what is left of the arguments. No condition.
-/
import Derived.Test.YtehohdjoiomajaaGreatDoorAmKnown
namespace Go.AM
open Go.Proofs
set_option maxRecDepth 100000

def ModsChainL0 : List Nat := [0]
theorem ModsChain_c0 : every (fun r => isTrue (run Tryz.prog E4 1000000 (.call 4 [.imod .u8 9 r] Heap.empty))) ModsChainL0 = true := by kernel_rfl
def ModsChainL1 : List Nat := [1]
theorem ModsChain_c1 : every (fun r => isTrue (run Tryz.prog E4 1000000 (.call 4 [.imod .u8 9 r] Heap.empty))) ModsChainL1 = true := by kernel_rfl
def ModsChainL2 : List Nat := [2]
theorem ModsChain_c2 : every (fun r => isTrue (run Tryz.prog E4 1000000 (.call 4 [.imod .u8 9 r] Heap.empty))) ModsChainL2 = true := by kernel_rfl

end Go.AM
