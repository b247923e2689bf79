/-
  CALLS OF WHATEVER DATA, RUN ONCE, in whichever order maps give their entries: a part of a table. No condition.
-/
import Derived.Test.YtlkbeldimoinjaaGreatDoorAmOrd0
namespace Go.AM
open Go.Proofs
set_option maxRecDepth 100000

def tRename0 : List (List V × V) := [([.str [46, 32, 97, 115, 32, 36, 120, 32, 124, 32, 46, 32, 97, 115, 32, 36, 121, 32, 124, 32, 36, 120], .int .i64 2, .str [121]], (.tup [.nils, (.int .u16 34)]))]
theorem tRename0_ok : ckO Tryz.prog E4 1000000 200 6 tRename0 = true := by kernel_rfl
def tRename3 : List (List V × V) := [([.str [100, 101, 102, 32, 121, 58, 32, 49, 59, 32, 100, 101, 102, 32, 120, 58, 32, 50, 59, 32, 121], .int .i64 6, .str [121]], (.tup [.nils, (.int .u16 34)]))]
theorem tRename3_ok : ckO Tryz.prog E4 1000000 200 6 tRename3 = true := by kernel_rfl
def tRename6 : List (List V × V) := [([.str [46, 32, 97, 115, 32, 36, 120, 32, 124, 32, 91, 46, 32, 97, 115, 32, 36, 121, 32, 124, 32, 36, 121, 93, 44, 32, 36, 120], .int .i64 2, .str [121]], (.tup [(.fsl 56 3 2 [(.agg [(.int .i64 5), (.int .i64 7), (.str [36, 121])]), (.agg [(.int .i64 26), (.int .i64 28), (.str [36, 121])])] .none), (.int .u16 0)]))]
theorem tRename6_ok : ckO Tryz.prog E4 1000000 200 6 tRename6 = true := by kernel_rfl
def tRename9 : List (List V × V) := [([.str [100, 101, 102, 32, 120, 58, 32, 49, 59, 32, 46, 32, 97, 115, 32, 36, 121, 32, 124, 32, 120, 32, 124, 32, 36, 121], .int .i64 1, .str [121]], (.tup [(.fsl 56 3 2 [(.agg [(.int .i64 4), (.int .i64 5), (.str [121])]), (.agg [(.int .i64 20), (.int .i64 21), (.str [121])])] .none), (.int .u16 0)]))]
theorem tRename9_ok : ckO Tryz.prog E4 1000000 200 6 tRename9 = true := by kernel_rfl
def tRename12 : List (List V × V) := [([.str [46, 32, 97, 115, 32, 36, 120, 32, 124, 32, 123, 36, 120, 125], .int .i64 2, .str [121]], (.tup [.nils, (.int .u16 32)]))]
theorem tRename12_ok : ckO Tryz.prog E4 1000000 200 6 tRename12 = true := by kernel_rfl
def tRename15 : List (List V × V) := [([.str [46, 32, 97, 115, 32, 36, 120, 32, 124, 32, 36, 120], .int .i64 2, .str [121]], (.tup [(.fsl 56 3 2 [(.agg [(.int .i64 5), (.int .i64 7), (.str [36, 121])]), (.agg [(.int .i64 10), (.int .i64 12), (.str [36, 121])])] .none), (.int .u16 0)]))]
theorem tRename15_ok : ckO Tryz.prog E4 1000000 200 6 tRename15 = true := by kernel_rfl

end Go.AM
