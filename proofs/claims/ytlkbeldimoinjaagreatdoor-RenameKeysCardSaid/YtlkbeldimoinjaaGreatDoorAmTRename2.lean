/-
  CALLS OF WHATEVER DATA, RUN ONCE, in whichever order maps give their entries: a part of a table. No condition.
-/
import Derived.Test.YtlkbeldimoinjaaGreatDoorAmOrd0
namespace Go.AM
open Go.Proofs
set_option maxRecDepth 100000

def tRename2 : List (List V × V) := [([.str [100, 101, 102, 32, 120, 58, 32, 49, 59, 32, 100, 101, 102, 32, 121, 58, 32, 50, 59, 32, 120], .int .i64 1, .str [121]], (.tup [.nils, (.int .u16 34)]))]
theorem tRename2_ok : ckO Tryz.prog E4 1000000 200 6 tRename2 = true := by kernel_rfl
def tRename5 : List (List V × V) := [([.str [100, 101, 102, 32, 102, 40, 120, 41, 58, 32, 100, 101, 102, 32, 121, 58, 32, 50, 59, 32, 120, 59, 32, 102, 40, 49, 41], .int .i64 3, .str [121]], (.tup [.nils, (.int .u16 34)]))]
theorem tRename5_ok : ckO Tryz.prog E4 1000000 200 6 tRename5 = true := by kernel_rfl
def tRename8 : List (List V × V) := [([.str [46, 32, 97, 115, 32, 36, 120, 32, 124, 32, 121, 32, 124, 32, 36, 120], .int .i64 2, .str [121]], (.tup [(.fsl 56 3 2 [(.agg [(.int .i64 5), (.int .i64 7), (.str [36, 121])]), (.agg [(.int .i64 14), (.int .i64 16), (.str [36, 121])])] .none), (.int .u16 0)]))]
theorem tRename8_ok : ckO Tryz.prog E4 1000000 200 6 tRename8 = true := by kernel_rfl
def tRename11 : List (List V × V) := [([.str [46, 32, 97, 115, 32, 123, 36, 120, 58, 32, 91, 36, 122, 93, 125, 32, 124, 32, 36, 120], .int .i64 3, .str [121]], (.tup [.nils, (.int .u16 32)]))]
theorem tRename11_ok : ckO Tryz.prog E4 1000000 200 6 tRename11 = true := by kernel_rfl
def tRename14 : List (List V × V) := [([.str [46, 32, 97, 115, 32, 123, 97, 58, 32, 36, 120, 125, 32, 124, 32, 123, 97, 58, 32, 36, 120, 125, 44, 32, 123, 36, 120, 58, 32, 49, 125], .int .i64 5, .str [121]], (.tup [(.fsl 56 3 3 [(.agg [(.int .i64 9), (.int .i64 11), (.str [36, 121])]), (.agg [(.int .i64 19), (.int .i64 21), (.str [36, 121])]), (.agg [(.int .i64 25), (.int .i64 27), (.str [36, 121])])] .none), (.int .u16 0)]))]
theorem tRename14_ok : ckO Tryz.prog E4 1000000 200 6 tRename14 = true := by kernel_rfl
def tRename17 : List (List V × V) := [([.str [46, 32, 97, 115, 32, 36, 120, 32, 124, 32, 49, 32, 97, 115, 32, 36, 121, 32, 124, 32, 36, 120], .int .i64 2, .str [121]], (.tup [.nils, (.int .u16 34)]))]
theorem tRename17_ok : ckO Tryz.prog E4 1000000 200 6 tRename17 = true := by kernel_rfl

end Go.AM
