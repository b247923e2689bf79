/-
  ModsLost, RUN: some of the cases, by what is left of the arguments. No condition.
-/
import Derived.Test.YtehohdjoiomajaaGreatDoorAmKnown
namespace Go.AM
open Go.Proofs
set_option maxRecDepth 100000

def ModsLostL8 : List (Nat × Nat) := [(1, 3)]
theorem ModsLost_c8 : every (fun r => isTrue (run Tryz.prog E4 1000000 (.call 5 [.imod .u8 3 r.1, .imod .u8 5 r.2] Heap.empty))) ModsLostL8 = true := by kernel_rfl
def ModsLostL9 : List (Nat × Nat) := [(1, 4)]
theorem ModsLost_c9 : every (fun r => isTrue (run Tryz.prog E4 1000000 (.call 5 [.imod .u8 3 r.1, .imod .u8 5 r.2] Heap.empty))) ModsLostL9 = true := by kernel_rfl
def ModsLostL10 : List (Nat × Nat) := [(2, 0)]
theorem ModsLost_c10 : every (fun r => isTrue (run Tryz.prog E4 1000000 (.call 5 [.imod .u8 3 r.1, .imod .u8 5 r.2] Heap.empty))) ModsLostL10 = true := by kernel_rfl
def ModsLostL11 : List (Nat × Nat) := [(2, 1)]
theorem ModsLost_c11 : every (fun r => isTrue (run Tryz.prog E4 1000000 (.call 5 [.imod .u8 3 r.1, .imod .u8 5 r.2] Heap.empty))) ModsLostL11 = true := by kernel_rfl

end Go.AM
