/-
  ParseKeys, RUN: some of the cases, by what is left of the arguments. No condition.
-/
import Derived.Test.YtkifjfjcfolhpaaGreatDoorAmKnown
namespace Go.AM
open Go.Proofs
set_option maxRecDepth 100000

def ParseKeysL0 : List Nat := [0]
theorem ParseKeys_c0 : every (fun r => isTrue (run Tryz.prog E3 1000000 (.call 7 [.imod .u8 18 r] Heap.empty))) ParseKeysL0 = true := by kernel_rfl
def ParseKeysL1 : List Nat := [1]
theorem ParseKeys_c1 : every (fun r => isTrue (run Tryz.prog E3 1000000 (.call 7 [.imod .u8 18 r] Heap.empty))) ParseKeysL1 = true := by kernel_rfl
def ParseKeysL2 : List Nat := [2]
theorem ParseKeys_c2 : every (fun r => isTrue (run Tryz.prog E3 1000000 (.call 7 [.imod .u8 18 r] Heap.empty))) ParseKeysL2 = true := by kernel_rfl
def ParseKeysL3 : List Nat := [3]
theorem ParseKeys_c3 : every (fun r => isTrue (run Tryz.prog E3 1000000 (.call 7 [.imod .u8 18 r] Heap.empty))) ParseKeysL3 = true := by kernel_rfl
def ParseKeysL4 : List Nat := [4]
theorem ParseKeys_c4 : every (fun r => isTrue (run Tryz.prog E3 1000000 (.call 7 [.imod .u8 18 r] Heap.empty))) ParseKeysL4 = true := by kernel_rfl

end Go.AM
