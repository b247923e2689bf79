/-
  ParseGreedy, RUN: some of the cases, by what is left of the arguments. No condition.
-/
import Derived.Test.YtkifjfjcfolhpaaGreatDoorAmKnown
namespace Go.AM
open Go.Proofs
set_option maxRecDepth 100000

def ParseGreedyL6 : List (Nat × Nat) := [(2, 0), (2, 1), (2, 2)]
theorem ParseGreedy_c6 : every (fun r => isTrue (run Tryz.prog E3 1000000 (.call 5 [.imod .u8 3 r.1, .imod .u8 9 r.2] Heap.empty))) ParseGreedyL6 = true := by kernel_rfl
def ParseGreedyL7 : List (Nat × Nat) := [(2, 3), (2, 4), (2, 5)]
theorem ParseGreedy_c7 : every (fun r => isTrue (run Tryz.prog E3 1000000 (.call 5 [.imod .u8 3 r.1, .imod .u8 9 r.2] Heap.empty))) ParseGreedyL7 = true := by kernel_rfl
def ParseGreedyL8 : List (Nat × Nat) := [(2, 6), (2, 7), (2, 8)]
theorem ParseGreedy_c8 : every (fun r => isTrue (run Tryz.prog E3 1000000 (.call 5 [.imod .u8 3 r.1, .imod .u8 9 r.2] Heap.empty))) ParseGreedyL8 = true := by kernel_rfl

end Go.AM
