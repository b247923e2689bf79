/-
  ModsChain, RUN: some of the cases, by what is left of the arguments. No condition.
-/
import Derived.Test.YtehohdjoiomajaaGreatDoorAmKnown
namespace Go.AM
open Go.Proofs
set_option maxRecDepth 100000

def ModsChainL3 : List Nat := [3]
theorem ModsChain_c3 : every (fun r => isTrue (run Tryz.prog E4 1000000 (.call 4 [.imod .u8 9 r] Heap.empty))) ModsChainL3 = true := by kernel_rfl
def ModsChainL4 : List Nat := [4]
theorem ModsChain_c4 : every (fun r => isTrue (run Tryz.prog E4 1000000 (.call 4 [.imod .u8 9 r] Heap.empty))) ModsChainL4 = true := by kernel_rfl
def ModsChainL5 : List Nat := [5]
theorem ModsChain_c5 : every (fun r => isTrue (run Tryz.prog E4 1000000 (.call 4 [.imod .u8 9 r] Heap.empty))) ModsChainL5 = true := by kernel_rfl

end Go.AM
