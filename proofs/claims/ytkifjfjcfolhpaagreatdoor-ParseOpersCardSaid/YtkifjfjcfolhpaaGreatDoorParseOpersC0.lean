/-
  ParseOpers, RUN: some of the cases, by what is left of the arguments. No condition.
-/
import Derived.Test.YtkifjfjcfolhpaaGreatDoorAmKnown
namespace Go.AM
open Go.Proofs
set_option maxRecDepth 100000

def ParseOpersL0 : List (Nat × Nat) := [(0, 0), (0, 1), (0, 2)]
theorem ParseOpers_c0 : every (fun r => isTrue (run Tryz.prog E3 1000000 (.call 4 [.imod .u8 9 r.1, .imod .u8 9 r.2] Heap.empty))) ParseOpersL0 = true := by kernel_rfl
def ParseOpersL1 : List (Nat × Nat) := [(0, 3), (0, 4), (0, 5)]
theorem ParseOpers_c1 : every (fun r => isTrue (run Tryz.prog E3 1000000 (.call 4 [.imod .u8 9 r.1, .imod .u8 9 r.2] Heap.empty))) ParseOpersL1 = true := by kernel_rfl
def ParseOpersL2 : List (Nat × Nat) := [(0, 6), (0, 7), (0, 8)]
theorem ParseOpers_c2 : every (fun r => isTrue (run Tryz.prog E3 1000000 (.call 4 [.imod .u8 9 r.1, .imod .u8 9 r.2] Heap.empty))) ParseOpersL2 = true := by kernel_rfl
def ParseOpersL3 : List (Nat × Nat) := [(1, 0), (1, 1), (1, 2)]
theorem ParseOpers_c3 : every (fun r => isTrue (run Tryz.prog E3 1000000 (.call 4 [.imod .u8 9 r.1, .imod .u8 9 r.2] Heap.empty))) ParseOpersL3 = true := by kernel_rfl
def ParseOpersL4 : List (Nat × Nat) := [(1, 3), (1, 4), (1, 5)]
theorem ParseOpers_c4 : every (fun r => isTrue (run Tryz.prog E3 1000000 (.call 4 [.imod .u8 9 r.1, .imod .u8 9 r.2] Heap.empty))) ParseOpersL4 = true := by kernel_rfl
def ParseOpersL5 : List (Nat × Nat) := [(1, 6), (1, 7), (1, 8)]
theorem ParseOpers_c5 : every (fun r => isTrue (run Tryz.prog E3 1000000 (.call 4 [.imod .u8 9 r.1, .imod .u8 9 r.2] Heap.empty))) ParseOpersL5 = true := by kernel_rfl
def ParseOpersL6 : List (Nat × Nat) := [(2, 0), (2, 1), (2, 2)]
theorem ParseOpers_c6 : every (fun r => isTrue (run Tryz.prog E3 1000000 (.call 4 [.imod .u8 9 r.1, .imod .u8 9 r.2] Heap.empty))) ParseOpersL6 = true := by kernel_rfl

end Go.AM
