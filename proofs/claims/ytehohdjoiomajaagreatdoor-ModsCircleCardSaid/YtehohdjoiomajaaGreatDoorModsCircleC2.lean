/-
  ModsCircle, RUN: some of the cases, by what is left of the arguments. No condition.
-/
import Derived.Test.YtehohdjoiomajaaGreatDoorAmKnown
namespace Go.AM
open Go.Proofs
set_option maxRecDepth 100000

def ModsCircleL12 : List (Nat × Nat) := [(3, 0)]
theorem ModsCircle_c12 : every (fun r => isTrue (run Tryz.prog E4 1000000 (.call 3 [.imod .u8 6 r.1, .imod .u8 4 r.2] Heap.empty))) ModsCircleL12 = true := by kernel_rfl
def ModsCircleL13 : List (Nat × Nat) := [(3, 1)]
theorem ModsCircle_c13 : every (fun r => isTrue (run Tryz.prog E4 1000000 (.call 3 [.imod .u8 6 r.1, .imod .u8 4 r.2] Heap.empty))) ModsCircleL13 = true := by kernel_rfl
def ModsCircleL14 : List (Nat × Nat) := [(3, 2)]
theorem ModsCircle_c14 : every (fun r => isTrue (run Tryz.prog E4 1000000 (.call 3 [.imod .u8 6 r.1, .imod .u8 4 r.2] Heap.empty))) ModsCircleL14 = true := by kernel_rfl
def ModsCircleL15 : List (Nat × Nat) := [(3, 3)]
theorem ModsCircle_c15 : every (fun r => isTrue (run Tryz.prog E4 1000000 (.call 3 [.imod .u8 6 r.1, .imod .u8 4 r.2] Heap.empty))) ModsCircleL15 = true := by kernel_rfl
def ModsCircleL16 : List (Nat × Nat) := [(4, 0)]
theorem ModsCircle_c16 : every (fun r => isTrue (run Tryz.prog E4 1000000 (.call 3 [.imod .u8 6 r.1, .imod .u8 4 r.2] Heap.empty))) ModsCircleL16 = true := by kernel_rfl
def ModsCircleL17 : List (Nat × Nat) := [(4, 1)]
theorem ModsCircle_c17 : every (fun r => isTrue (run Tryz.prog E4 1000000 (.call 3 [.imod .u8 6 r.1, .imod .u8 4 r.2] Heap.empty))) ModsCircleL17 = true := by kernel_rfl

end Go.AM
