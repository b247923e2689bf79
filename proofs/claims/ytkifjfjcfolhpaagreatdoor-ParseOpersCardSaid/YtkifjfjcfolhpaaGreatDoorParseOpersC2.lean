/-
  ParseOpers, RUN: some of the cases, by what is left of the arguments. No condition.
-/
import Derived.Test.YtkifjfjcfolhpaaGreatDoorAmKnown
namespace Go.AM
open Go.Proofs
set_option maxRecDepth 100000

def ParseOpersL14 : List (Nat × Nat) := [(4, 6), (4, 7), (4, 8)]
theorem ParseOpers_c14 : every (fun r => isTrue (run Tryz.prog E3 1000000 (.call 4 [.imod .u8 9 r.1, .imod .u8 9 r.2] Heap.empty))) ParseOpersL14 = true := by kernel_rfl
def ParseOpersL15 : List (Nat × Nat) := [(5, 0), (5, 1), (5, 2)]
theorem ParseOpers_c15 : every (fun r => isTrue (run Tryz.prog E3 1000000 (.call 4 [.imod .u8 9 r.1, .imod .u8 9 r.2] Heap.empty))) ParseOpersL15 = true := by kernel_rfl
def ParseOpersL16 : List (Nat × Nat) := [(5, 3), (5, 4), (5, 5)]
theorem ParseOpers_c16 : every (fun r => isTrue (run Tryz.prog E3 1000000 (.call 4 [.imod .u8 9 r.1, .imod .u8 9 r.2] Heap.empty))) ParseOpersL16 = true := by kernel_rfl
def ParseOpersL17 : List (Nat × Nat) := [(5, 6), (5, 7), (5, 8)]
theorem ParseOpers_c17 : every (fun r => isTrue (run Tryz.prog E3 1000000 (.call 4 [.imod .u8 9 r.1, .imod .u8 9 r.2] Heap.empty))) ParseOpersL17 = true := by kernel_rfl
def ParseOpersL18 : List (Nat × Nat) := [(6, 0), (6, 1), (6, 2)]
theorem ParseOpers_c18 : every (fun r => isTrue (run Tryz.prog E3 1000000 (.call 4 [.imod .u8 9 r.1, .imod .u8 9 r.2] Heap.empty))) ParseOpersL18 = true := by kernel_rfl
def ParseOpersL19 : List (Nat × Nat) := [(6, 3), (6, 4), (6, 5)]
theorem ParseOpers_c19 : every (fun r => isTrue (run Tryz.prog E3 1000000 (.call 4 [.imod .u8 9 r.1, .imod .u8 9 r.2] Heap.empty))) ParseOpersL19 = true := by kernel_rfl
def ParseOpersL20 : List (Nat × Nat) := [(6, 6), (6, 7), (6, 8)]
theorem ParseOpers_c20 : every (fun r => isTrue (run Tryz.prog E3 1000000 (.call 4 [.imod .u8 9 r.1, .imod .u8 9 r.2] Heap.empty))) ParseOpersL20 = true := by kernel_rfl

end Go.AM
