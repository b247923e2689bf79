/-
  ModsCircle, RUN: some of the cases, by what is left of the arguments. No condition.
-/
import Derived.Test.YtehohdjoiomajaaGreatDoorAmKnown
namespace Go.AM
open Go.Proofs
set_option maxRecDepth 100000

def ModsCircleL18 : List (Nat × Nat) := [(4, 2)]
theorem ModsCircle_c18 : every (fun r => isTrue (run Tryz.prog E4 1000000 (.call 3 [.imod .u8 6 r.1, .imod .u8 4 r.2] Heap.empty))) ModsCircleL18 = true := by kernel_rfl
def ModsCircleL19 : List (Nat × Nat) := [(4, 3)]
theorem ModsCircle_c19 : every (fun r => isTrue (run Tryz.prog E4 1000000 (.call 3 [.imod .u8 6 r.1, .imod .u8 4 r.2] Heap.empty))) ModsCircleL19 = true := by kernel_rfl
def ModsCircleL20 : List (Nat × Nat) := [(5, 0)]
theorem ModsCircle_c20 : every (fun r => isTrue (run Tryz.prog E4 1000000 (.call 3 [.imod .u8 6 r.1, .imod .u8 4 r.2] Heap.empty))) ModsCircleL20 = true := by kernel_rfl
def ModsCircleL21 : List (Nat × Nat) := [(5, 1)]
theorem ModsCircle_c21 : every (fun r => isTrue (run Tryz.prog E4 1000000 (.call 3 [.imod .u8 6 r.1, .imod .u8 4 r.2] Heap.empty))) ModsCircleL21 = true := by kernel_rfl
def ModsCircleL22 : List (Nat × Nat) := [(5, 2)]
theorem ModsCircle_c22 : every (fun r => isTrue (run Tryz.prog E4 1000000 (.call 3 [.imod .u8 6 r.1, .imod .u8 4 r.2] Heap.empty))) ModsCircleL22 = true := by kernel_rfl
def ModsCircleL23 : List (Nat × Nat) := [(5, 3)]
theorem ModsCircle_c23 : every (fun r => isTrue (run Tryz.prog E4 1000000 (.call 3 [.imod .u8 6 r.1, .imod .u8 4 r.2] Heap.empty))) ModsCircleL23 = true := by kernel_rfl

end Go.AM
