/-
  ModsLost, RUN: some of the cases, by what is left of the arguments. No condition.
-/
import Derived.Test.YtehohdjoiomajaaGreatDoorAmKnown
namespace Go.AM
open Go.Proofs
set_option maxRecDepth 100000

def ModsLostL0 : List (Nat × Nat) := [(0, 0)]
theorem ModsLost_c0 : every (fun r => isTrue (run Tryz.prog E4 1000000 (.call 5 [.imod .u8 3 r.1, .imod .u8 5 r.2] Heap.empty))) ModsLostL0 = true := by kernel_rfl
def ModsLostL1 : List (Nat × Nat) := [(0, 1)]
theorem ModsLost_c1 : every (fun r => isTrue (run Tryz.prog E4 1000000 (.call 5 [.imod .u8 3 r.1, .imod .u8 5 r.2] Heap.empty))) ModsLostL1 = true := by kernel_rfl
def ModsLostL2 : List (Nat × Nat) := [(0, 2)]
theorem ModsLost_c2 : every (fun r => isTrue (run Tryz.prog E4 1000000 (.call 5 [.imod .u8 3 r.1, .imod .u8 5 r.2] Heap.empty))) ModsLostL2 = true := by kernel_rfl
def ModsLostL3 : List (Nat × Nat) := [(0, 3)]
theorem ModsLost_c3 : every (fun r => isTrue (run Tryz.prog E4 1000000 (.call 5 [.imod .u8 3 r.1, .imod .u8 5 r.2] Heap.empty))) ModsLostL3 = true := by kernel_rfl

end Go.AM
