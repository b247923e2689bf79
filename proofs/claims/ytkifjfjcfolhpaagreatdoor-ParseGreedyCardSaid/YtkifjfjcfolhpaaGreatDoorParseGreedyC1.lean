/-
  ParseGreedy, RUN: some of the cases, by what is left of the arguments. No condition.
-/
import Derived.Test.YtkifjfjcfolhpaaGreatDoorAmKnown
namespace Go.AM
open Go.Proofs
set_option maxRecDepth 100000

def ParseGreedyL3 : List (Nat × Nat) := [(1, 0), (1, 1), (1, 2)]
theorem ParseGreedy_c3 : every (fun r => isTrue (run Tryz.prog E3 1000000 (.call 5 [.imod .u8 3 r.1, .imod .u8 9 r.2] Heap.empty))) ParseGreedyL3 = true := by kernel_rfl
def ParseGreedyL4 : List (Nat × Nat) := [(1, 3), (1, 4), (1, 5)]
theorem ParseGreedy_c4 : every (fun r => isTrue (run Tryz.prog E3 1000000 (.call 5 [.imod .u8 3 r.1, .imod .u8 9 r.2] Heap.empty))) ParseGreedyL4 = true := by kernel_rfl
def ParseGreedyL5 : List (Nat × Nat) := [(1, 6), (1, 7), (1, 8)]
theorem ParseGreedy_c5 : every (fun r => isTrue (run Tryz.prog E3 1000000 (.call 5 [.imod .u8 3 r.1, .imod .u8 9 r.2] Heap.empty))) ParseGreedyL5 = true := by kernel_rfl

end Go.AM
