/-
  CALLS OF WHATEVER DATA, RUN ONCE, in whichever order maps give their entries: a part of a table. No condition.
-/
import Derived.Test.YtlkbeldimoinjaaGreatDoorAmOrd0
namespace Go.AM
open Go.Proofs
set_option maxRecDepth 100000

def tRename1 : List (List V × V) := [([.str [46, 32, 97, 115, 32, 36, 121, 32, 124, 32, 46, 32, 97, 115, 32, 36, 120, 32, 124, 32, 36, 121], .int .i64 6, .str [121]], (.tup [.nils, (.int .u16 34)]))]
theorem tRename1_ok : ckO Tryz.prog E4 1000000 200 6 tRename1 = true := by kernel_rfl
def tRename4 : List (List V × V) := [([.str [108, 97, 98, 101, 108, 32, 36, 120, 32, 124, 32, 108, 97, 98, 101, 108, 32, 36, 121, 32, 124, 32, 98, 114, 101, 97, 107, 32, 36, 120], .int .i64 1, .str [121]], (.tup [.nils, (.int .u16 34)]))]
theorem tRename4_ok : ckO Tryz.prog E4 1000000 200 6 tRename4 = true := by kernel_rfl
def tRename7 : List (List V × V) := [([.str [100, 101, 102, 32, 120, 58, 32, 49, 59, 32, 100, 101, 102, 32, 121, 40, 97, 41, 58, 32, 50, 59, 32, 120], .int .i64 1, .str [121]], (.tup [(.fsl 56 3 2 [(.agg [(.int .i64 4), (.int .i64 5), (.str [121])]), (.agg [(.int .i64 23), (.int .i64 24), (.str [121])])] .none), (.int .u16 0)]))]
theorem tRename7_ok : ckO Tryz.prog E4 1000000 200 6 tRename7 = true := by kernel_rfl
def tRename10 : List (List V × V) := [([.str [46, 32, 97, 115, 32, 123, 36, 120, 125, 32, 124, 32, 36, 120], .int .i64 3, .str [121]], (.tup [.nils, (.int .u16 32)]))]
theorem tRename10_ok : ckO Tryz.prog E4 1000000 200 6 tRename10 = true := by kernel_rfl
def tRename13 : List (List V × V) := [([.str [100, 101, 102, 32, 102, 40, 36, 120, 41, 58, 32, 123, 36, 120, 125, 59, 32, 102, 40, 49, 41], .int .i64 3, .str [121]], (.tup [.nils, (.int .u16 32)]))]
theorem tRename13_ok : ckO Tryz.prog E4 1000000 200 6 tRename13 = true := by kernel_rfl
def tRename16 : List (List V × V) := [([.str [46, 32, 97, 115, 32, 36, 120, 32, 124, 32, 36, 120], .int .i64 0, .str [121]], (.tup [.nils, (.int .u16 30)]))]
theorem tRename16_ok : ckO Tryz.prog E4 1000000 200 6 tRename16 = true := by kernel_rfl

end Go.AM
