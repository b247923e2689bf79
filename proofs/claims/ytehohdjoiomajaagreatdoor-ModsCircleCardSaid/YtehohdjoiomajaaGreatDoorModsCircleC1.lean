/-
  ModsCircle, RUN: some of the cases, by what is left of the arguments. No condition.
-/
import Derived.Test.YtehohdjoiomajaaGreatDoorAmKnown
namespace Go.AM
open Go.Proofs
set_option maxRecDepth 100000

def ModsCircleL6 : List (Nat × Nat) := [(1, 2)]
theorem ModsCircle_c6 : every (fun r => isTrue (run Tryz.prog E4 1000000 (.call 3 [.imod .u8 6 r.1, .imod .u8 4 r.2] Heap.empty))) ModsCircleL6 = true := by kernel_rfl
def ModsCircleL7 : List (Nat × Nat) := [(1, 3)]
theorem ModsCircle_c7 : every (fun r => isTrue (run Tryz.prog E4 1000000 (.call 3 [.imod .u8 6 r.1, .imod .u8 4 r.2] Heap.empty))) ModsCircleL7 = true := by kernel_rfl
def ModsCircleL8 : List (Nat × Nat) := [(2, 0)]
theorem ModsCircle_c8 : every (fun r => isTrue (run Tryz.prog E4 1000000 (.call 3 [.imod .u8 6 r.1, .imod .u8 4 r.2] Heap.empty))) ModsCircleL8 = true := by kernel_rfl
def ModsCircleL9 : List (Nat × Nat) := [(2, 1)]
theorem ModsCircle_c9 : every (fun r => isTrue (run Tryz.prog E4 1000000 (.call 3 [.imod .u8 6 r.1, .imod .u8 4 r.2] Heap.empty))) ModsCircleL9 = true := by kernel_rfl
def ModsCircleL10 : List (Nat × Nat) := [(2, 2)]
theorem ModsCircle_c10 : every (fun r => isTrue (run Tryz.prog E4 1000000 (.call 3 [.imod .u8 6 r.1, .imod .u8 4 r.2] Heap.empty))) ModsCircleL10 = true := by kernel_rfl
def ModsCircleL11 : List (Nat × Nat) := [(2, 3)]
theorem ModsCircle_c11 : every (fun r => isTrue (run Tryz.prog E4 1000000 (.call 3 [.imod .u8 6 r.1, .imod .u8 4 r.2] Heap.empty))) ModsCircleL11 = true := by kernel_rfl

end Go.AM
