/-
  ParseGreedy, RUN: some of the cases, by what is left of the arguments. No condition.
-/
import Derived.Test.YtkifjfjcfolhpaaGreatDoorAmKnown
namespace Go.AM
open Go.Proofs
set_option maxRecDepth 100000

def ParseGreedyL0 : List (Nat × Nat) := [(0, 0), (0, 1), (0, 2)]
theorem ParseGreedy_c0 : every (fun r => isTrue (run Tryz.prog E3 1000000 (.call 5 [.imod .u8 3 r.1, .imod .u8 9 r.2] Heap.empty))) ParseGreedyL0 = true := by kernel_rfl
def ParseGreedyL1 : List (Nat × Nat) := [(0, 3), (0, 4), (0, 5)]
theorem ParseGreedy_c1 : every (fun r => isTrue (run Tryz.prog E3 1000000 (.call 5 [.imod .u8 3 r.1, .imod .u8 9 r.2] Heap.empty))) ParseGreedyL1 = true := by kernel_rfl
def ParseGreedyL2 : List (Nat × Nat) := [(0, 6), (0, 7), (0, 8)]
theorem ParseGreedy_c2 : every (fun r => isTrue (run Tryz.prog E3 1000000 (.call 5 [.imod .u8 3 r.1, .imod .u8 9 r.2] Heap.empty))) ParseGreedyL2 = true := by kernel_rfl

end Go.AM
