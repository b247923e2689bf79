/-
  ParseKeys, RUN: some of the cases, by what is left of the arguments. No condition.
-/
import Derived.Test.YtkifjfjcfolhpaaGreatDoorAmKnown
namespace Go.AM
open Go.Proofs
set_option maxRecDepth 100000

def ParseKeysL10 : List Nat := [10]
theorem ParseKeys_c10 : every (fun r => isTrue (run Tryz.prog E3 1000000 (.call 7 [.imod .u8 18 r] Heap.empty))) ParseKeysL10 = true := by kernel_rfl
def ParseKeysL11 : List Nat := [11]
theorem ParseKeys_c11 : every (fun r => isTrue (run Tryz.prog E3 1000000 (.call 7 [.imod .u8 18 r] Heap.empty))) ParseKeysL11 = true := by kernel_rfl
def ParseKeysL12 : List Nat := [12]
theorem ParseKeys_c12 : every (fun r => isTrue (run Tryz.prog E3 1000000 (.call 7 [.imod .u8 18 r] Heap.empty))) ParseKeysL12 = true := by kernel_rfl
def ParseKeysL13 : List Nat := [13]
theorem ParseKeys_c13 : every (fun r => isTrue (run Tryz.prog E3 1000000 (.call 7 [.imod .u8 18 r] Heap.empty))) ParseKeysL13 = true := by kernel_rfl
def ParseKeysL14 : List Nat := [14]
theorem ParseKeys_c14 : every (fun r => isTrue (run Tryz.prog E3 1000000 (.call 7 [.imod .u8 18 r] Heap.empty))) ParseKeysL14 = true := by kernel_rfl

end Go.AM
