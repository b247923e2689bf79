/-
  ModsCircle, RUN: some of the cases, by what is left of the arguments. No condition.
-/
import Derived.Test.YtehohdjoiomajaaGreatDoorAmKnown
namespace Go.AM
open Go.Proofs
set_option maxRecDepth 100000

def ModsCircleL0 : List (Nat × Nat) := [(0, 0)]
theorem ModsCircle_c0 : every (fun r => isTrue (run Tryz.prog E4 1000000 (.call 3 [.imod .u8 6 r.1, .imod .u8 4 r.2] Heap.empty))) ModsCircleL0 = true := by kernel_rfl
def ModsCircleL1 : List (Nat × Nat) := [(0, 1)]
theorem ModsCircle_c1 : every (fun r => isTrue (run Tryz.prog E4 1000000 (.call 3 [.imod .u8 6 r.1, .imod .u8 4 r.2] Heap.empty))) ModsCircleL1 = true := by kernel_rfl
def ModsCircleL2 : List (Nat × Nat) := [(0, 2)]
theorem ModsCircle_c2 : every (fun r => isTrue (run Tryz.prog E4 1000000 (.call 3 [.imod .u8 6 r.1, .imod .u8 4 r.2] Heap.empty))) ModsCircleL2 = true := by kernel_rfl
def ModsCircleL3 : List (Nat × Nat) := [(0, 3)]
theorem ModsCircle_c3 : every (fun r => isTrue (run Tryz.prog E4 1000000 (.call 3 [.imod .u8 6 r.1, .imod .u8 4 r.2] Heap.empty))) ModsCircleL3 = true := by kernel_rfl
def ModsCircleL4 : List (Nat × Nat) := [(1, 0)]
theorem ModsCircle_c4 : every (fun r => isTrue (run Tryz.prog E4 1000000 (.call 3 [.imod .u8 6 r.1, .imod .u8 4 r.2] Heap.empty))) ModsCircleL4 = true := by kernel_rfl
def ModsCircleL5 : List (Nat × Nat) := [(1, 1)]
theorem ModsCircle_c5 : every (fun r => isTrue (run Tryz.prog E4 1000000 (.call 3 [.imod .u8 6 r.1, .imod .u8 4 r.2] Heap.empty))) ModsCircleL5 = true := by kernel_rfl

end Go.AM
