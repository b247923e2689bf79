/-
  ParseKeys, RUN: some of the cases, by what is left of the arguments. No condition.
-/
import Derived.Test.YtkifjfjcfolhpaaGreatDoorAmKnown
namespace Go.AM
open Go.Proofs
set_option maxRecDepth 100000

def ParseKeysL15 : List Nat := [15]
theorem ParseKeys_c15 : every (fun r => isTrue (run Tryz.prog E3 1000000 (.call 7 [.imod .u8 18 r] Heap.empty))) ParseKeysL15 = true := by kernel_rfl
def ParseKeysL16 : List Nat := [16]
theorem ParseKeys_c16 : every (fun r => isTrue (run Tryz.prog E3 1000000 (.call 7 [.imod .u8 18 r] Heap.empty))) ParseKeysL16 = true := by kernel_rfl
def ParseKeysL17 : List Nat := [17]
theorem ParseKeys_c17 : every (fun r => isTrue (run Tryz.prog E3 1000000 (.call 7 [.imod .u8 18 r] Heap.empty))) ParseKeysL17 = true := by kernel_rfl

end Go.AM
