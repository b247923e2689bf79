/-
  ParseKeys, RUN: some of the cases, by what is left of the arguments. No condition.
-/
import Derived.Test.YtkifjfjcfolhpaaGreatDoorAmKnown
namespace Go.AM
open Go.Proofs
set_option maxRecDepth 100000

def ParseKeysL5 : List Nat := [5]
theorem ParseKeys_c5 : every (fun r => isTrue (run Tryz.prog E3 1000000 (.call 7 [.imod .u8 18 r] Heap.empty))) ParseKeysL5 = true := by kernel_rfl
def ParseKeysL6 : List Nat := [6]
theorem ParseKeys_c6 : every (fun r => isTrue (run Tryz.prog E3 1000000 (.call 7 [.imod .u8 18 r] Heap.empty))) ParseKeysL6 = true := by kernel_rfl
def ParseKeysL7 : List Nat := [7]
theorem ParseKeys_c7 : every (fun r => isTrue (run Tryz.prog E3 1000000 (.call 7 [.imod .u8 18 r] Heap.empty))) ParseKeysL7 = true := by kernel_rfl
def ParseKeysL8 : List Nat := [8]
theorem ParseKeys_c8 : every (fun r => isTrue (run Tryz.prog E3 1000000 (.call 7 [.imod .u8 18 r] Heap.empty))) ParseKeysL8 = true := by kernel_rfl
def ParseKeysL9 : List Nat := [9]
theorem ParseKeys_c9 : every (fun r => isTrue (run Tryz.prog E3 1000000 (.call 7 [.imod .u8 18 r] Heap.empty))) ParseKeysL9 = true := by kernel_rfl

end Go.AM
