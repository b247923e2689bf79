/-
  ParseOpers, RUN: some of the cases, by what is left of the arguments. No condition.
-/
import Derived.Test.YtkifjfjcfolhpaaGreatDoorAmKnown
namespace Go.AM
open Go.Proofs
set_option maxRecDepth 100000

def ParseOpersL7 : List (Nat × Nat) := [(2, 3), (2, 4), (2, 5)]
theorem ParseOpers_c7 : every (fun r => isTrue (run Tryz.prog E3 1000000 (.call 4 [.imod .u8 9 r.1, .imod .u8 9 r.2] Heap.empty))) ParseOpersL7 = true := by kernel_rfl
def ParseOpersL8 : List (Nat × Nat) := [(2, 6), (2, 7), (2, 8)]
theorem ParseOpers_c8 : every (fun r => isTrue (run Tryz.prog E3 1000000 (.call 4 [.imod .u8 9 r.1, .imod .u8 9 r.2] Heap.empty))) ParseOpersL8 = true := by kernel_rfl
def ParseOpersL9 : List (Nat × Nat) := [(3, 0), (3, 1), (3, 2)]
theorem ParseOpers_c9 : every (fun r => isTrue (run Tryz.prog E3 1000000 (.call 4 [.imod .u8 9 r.1, .imod .u8 9 r.2] Heap.empty))) ParseOpersL9 = true := by kernel_rfl
def ParseOpersL10 : List (Nat × Nat) := [(3, 3), (3, 4), (3, 5)]
theorem ParseOpers_c10 : every (fun r => isTrue (run Tryz.prog E3 1000000 (.call 4 [.imod .u8 9 r.1, .imod .u8 9 r.2] Heap.empty))) ParseOpersL10 = true := by kernel_rfl
def ParseOpersL11 : List (Nat × Nat) := [(3, 6), (3, 7), (3, 8)]
theorem ParseOpers_c11 : every (fun r => isTrue (run Tryz.prog E3 1000000 (.call 4 [.imod .u8 9 r.1, .imod .u8 9 r.2] Heap.empty))) ParseOpersL11 = true := by kernel_rfl
def ParseOpersL12 : List (Nat × Nat) := [(4, 0), (4, 1), (4, 2)]
theorem ParseOpers_c12 : every (fun r => isTrue (run Tryz.prog E3 1000000 (.call 4 [.imod .u8 9 r.1, .imod .u8 9 r.2] Heap.empty))) ParseOpersL12 = true := by kernel_rfl
def ParseOpersL13 : List (Nat × Nat) := [(4, 3), (4, 4), (4, 5)]
theorem ParseOpers_c13 : every (fun r => isTrue (run Tryz.prog E3 1000000 (.call 4 [.imod .u8 9 r.1, .imod .u8 9 r.2] Heap.empty))) ParseOpersL13 = true := by kernel_rfl

end Go.AM
