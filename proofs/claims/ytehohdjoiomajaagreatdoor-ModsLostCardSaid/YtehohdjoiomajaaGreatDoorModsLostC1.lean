/-
  ModsLost, RUN: some of the cases, by what is left of the arguments. No condition.
-/
import Derived.Test.YtehohdjoiomajaaGreatDoorAmKnown
namespace Go.AM
open Go.Proofs
set_option maxRecDepth 100000

def ModsLostL4 : List (Nat × Nat) := [(0, 4)]
theorem ModsLost_c4 : every (fun r => isTrue (run Tryz.prog E4 1000000 (.call 5 [.imod .u8 3 r.1, .imod .u8 5 r.2] Heap.empty))) ModsLostL4 = true := by kernel_rfl
def ModsLostL5 : List (Nat × Nat) := [(1, 0)]
theorem ModsLost_c5 : every (fun r => isTrue (run Tryz.prog E4 1000000 (.call 5 [.imod .u8 3 r.1, .imod .u8 5 r.2] Heap.empty))) ModsLostL5 = true := by kernel_rfl
def ModsLostL6 : List (Nat × Nat) := [(1, 1)]
theorem ModsLost_c6 : every (fun r => isTrue (run Tryz.prog E4 1000000 (.call 5 [.imod .u8 3 r.1, .imod .u8 5 r.2] Heap.empty))) ModsLostL6 = true := by kernel_rfl
def ModsLostL7 : List (Nat × Nat) := [(1, 2)]
theorem ModsLost_c7 : every (fun r => isTrue (run Tryz.prog E4 1000000 (.call 5 [.imod .u8 3 r.1, .imod .u8 5 r.2] Heap.empty))) ModsLostL7 = true := by kernel_rfl

end Go.AM
