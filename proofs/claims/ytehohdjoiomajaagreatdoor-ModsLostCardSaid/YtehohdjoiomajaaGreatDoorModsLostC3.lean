/-
  ModsLost, RUN: some of the cases, by what is left of the arguments. No condition.
-/
import Derived.Test.YtehohdjoiomajaaGreatDoorAmKnown
namespace Go.AM
open Go.Proofs
set_option maxRecDepth 100000

def ModsLostL12 : List (Nat × Nat) := [(2, 2)]
theorem ModsLost_c12 : every (fun r => isTrue (run Tryz.prog E4 1000000 (.call 5 [.imod .u8 3 r.1, .imod .u8 5 r.2] Heap.empty))) ModsLostL12 = true := by kernel_rfl
def ModsLostL13 : List (Nat × Nat) := [(2, 3)]
theorem ModsLost_c13 : every (fun r => isTrue (run Tryz.prog E4 1000000 (.call 5 [.imod .u8 3 r.1, .imod .u8 5 r.2] Heap.empty))) ModsLostL13 = true := by kernel_rfl
def ModsLostL14 : List (Nat × Nat) := [(2, 4)]
theorem ModsLost_c14 : every (fun r => isTrue (run Tryz.prog E4 1000000 (.call 5 [.imod .u8 3 r.1, .imod .u8 5 r.2] Heap.empty))) ModsLostL14 = true := by kernel_rfl

end Go.AM
