/-
  ParseOpers, RUN: some of the cases, by what is left of the arguments. No condition.
-/
import Derived.Test.YtkifjfjcfolhpaaGreatDoorAmKnown
namespace Go.AM
open Go.Proofs
set_option maxRecDepth 100000

def ParseOpersL21 : List (Nat × Nat) := [(7, 0), (7, 1), (7, 2)]
theorem ParseOpers_c21 : every (fun r => isTrue (run Tryz.prog E3 1000000 (.call 4 [.imod .u8 9 r.1, .imod .u8 9 r.2] Heap.empty))) ParseOpersL21 = true := by kernel_rfl
def ParseOpersL22 : List (Nat × Nat) := [(7, 3), (7, 4), (7, 5)]
theorem ParseOpers_c22 : every (fun r => isTrue (run Tryz.prog E3 1000000 (.call 4 [.imod .u8 9 r.1, .imod .u8 9 r.2] Heap.empty))) ParseOpersL22 = true := by kernel_rfl
def ParseOpersL23 : List (Nat × Nat) := [(7, 6), (7, 7), (7, 8)]
theorem ParseOpers_c23 : every (fun r => isTrue (run Tryz.prog E3 1000000 (.call 4 [.imod .u8 9 r.1, .imod .u8 9 r.2] Heap.empty))) ParseOpersL23 = true := by kernel_rfl
def ParseOpersL24 : List (Nat × Nat) := [(8, 0), (8, 1), (8, 2)]
theorem ParseOpers_c24 : every (fun r => isTrue (run Tryz.prog E3 1000000 (.call 4 [.imod .u8 9 r.1, .imod .u8 9 r.2] Heap.empty))) ParseOpersL24 = true := by kernel_rfl
def ParseOpersL25 : List (Nat × Nat) := [(8, 3), (8, 4), (8, 5)]
theorem ParseOpers_c25 : every (fun r => isTrue (run Tryz.prog E3 1000000 (.call 4 [.imod .u8 9 r.1, .imod .u8 9 r.2] Heap.empty))) ParseOpersL25 = true := by kernel_rfl
def ParseOpersL26 : List (Nat × Nat) := [(8, 6), (8, 7), (8, 8)]
theorem ParseOpers_c26 : every (fun r => isTrue (run Tryz.prog E3 1000000 (.call 4 [.imod .u8 9 r.1, .imod .u8 9 r.2] Heap.empty))) ParseOpersL26 = true := by kernel_rfl

end Go.AM
