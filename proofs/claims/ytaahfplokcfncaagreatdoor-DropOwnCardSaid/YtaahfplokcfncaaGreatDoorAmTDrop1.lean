/-
  CALLS OF TEXTS, RUN ONCE: a part of a table. No condition.
-/
import Derived.Test.YtaahfplokcfncaaGreatDoorAmEnvBB
namespace Go.AM
open Go.Proofs
set_option maxRecDepth 100000

def tDrop1 : List (List UInt8 × V) := [([32, 49], (.tup [.nils, (.int .u16 0)]))]
theorem tDrop1_ok : ckT Tryz.prog E3 1000000 6 tDrop1 = true := by kernel_rfl
def tDrop3 : List (List UInt8 × V) := [([100, 101, 102, 32, 102, 48, 58, 32, 102, 48, 59, 32, 100, 101, 102, 32, 102, 49, 58, 32, 102, 48, 59, 32, 49], (.tup [(.fsl 56 3 0 [(.agg [(.int .i64 12), (.int .i64 23), (.str [])])] .none), (.int .u16 0)]))]
theorem tDrop3_ok : ckT Tryz.prog E3 1000000 6 tDrop3 = true := by kernel_rfl
def tDrop5 : List (List UInt8 × V) := [([32, 32, 49], (.tup [.nils, (.int .u16 0)]))]
theorem tDrop5_ok : ckT Tryz.prog E3 1000000 6 tDrop5 = true := by kernel_rfl
def tDrop7 : List (List UInt8 × V) := [([100, 101, 102, 32, 102, 48, 58, 32, 102, 48, 59, 32, 100, 101, 102, 32, 102, 49, 58, 32, 102, 48, 59, 32, 100, 101, 102, 32, 102, 50, 58, 32, 102, 49, 59, 32, 49], (.tup [(.fsl 56 3 0 [(.agg [(.int .i64 24), (.int .i64 35), (.str [])])] .none), (.int .u16 0)]))]
theorem tDrop7_ok : ckT Tryz.prog E3 1000000 6 tDrop7 = true := by kernel_rfl
def tDrop9 : List (List UInt8 × V) := [([100, 101, 102, 32, 102, 48, 58, 32, 102, 48, 59, 32, 32, 32, 49], (.tup [(.fsl 56 3 0 [(.agg [(.int .i64 0), (.int .i64 11), (.str [])])] .none), (.int .u16 0)]))]
theorem tDrop9_ok : ckT Tryz.prog E3 1000000 6 tDrop9 = true := by kernel_rfl
def tDrop11 : List (List UInt8 × V) := [([100, 101, 102, 32, 102, 48, 58, 32, 102, 48, 59, 32, 100, 101, 102, 32, 102, 49, 58, 32, 102, 48, 59, 32, 100, 101, 102, 32, 102, 50, 58, 32, 102, 49, 59, 32, 102, 50], (.tup [.nils, (.int .u16 0)]))]
theorem tDrop11_ok : ckT Tryz.prog E3 1000000 6 tDrop11 = true := by kernel_rfl
def tDrop13 : List (List UInt8 × V) := [([100, 101, 102, 32, 102, 48, 58, 32, 102, 48, 59, 32, 100, 101, 102, 32, 102, 49, 58, 32, 102, 48, 59, 32, 100, 101, 102, 32, 102, 50, 58, 32, 102, 49, 59, 32, 32, 49], (.tup [(.fsl 56 3 0 [(.agg [(.int .i64 24), (.int .i64 35), (.str [])])] .none), (.int .u16 0)]))]
theorem tDrop13_ok : ckT Tryz.prog E3 1000000 6 tDrop13 = true := by kernel_rfl
def tDrop15 : List (List UInt8 × V) := [([100, 101, 102, 32, 102, 48, 58, 32, 102, 48, 59, 32, 32, 32, 32, 49], (.tup [(.fsl 56 3 0 [(.agg [(.int .i64 0), (.int .i64 11), (.str [])])] .none), (.int .u16 0)]))]
theorem tDrop15_ok : ckT Tryz.prog E3 1000000 6 tDrop15 = true := by kernel_rfl
def tDrop17 : List (List UInt8 × V) := [([100, 101, 102, 32, 102, 48, 58, 32, 102, 48, 59, 32, 100, 101, 102, 32, 102, 49, 58, 32, 102, 48, 59, 32, 100, 101, 102, 32, 102, 50, 58, 32, 102, 49, 59, 32, 100, 101, 102, 32, 102, 51, 58, 32, 102, 50, 59, 32, 102, 51], (.tup [.nils, (.int .u16 0)]))]
theorem tDrop17_ok : ckT Tryz.prog E3 1000000 6 tDrop17 = true := by kernel_rfl
def tDrop19 : List (List UInt8 × V) := [([100, 101, 102, 32, 102, 48, 58, 32, 102, 48, 59, 32, 100, 101, 102, 32, 102, 49, 58, 32, 102, 48, 59, 32, 100, 101, 102, 32, 102, 50, 58, 32, 102, 49, 59, 32, 100, 101, 102, 32, 102, 51, 58, 32, 102, 50, 59, 32, 32, 49], (.tup [(.fsl 56 3 0 [(.agg [(.int .i64 36), (.int .i64 47), (.str [])])] .none), (.int .u16 0)]))]
theorem tDrop19_ok : ckT Tryz.prog E3 1000000 6 tDrop19 = true := by kernel_rfl
def tDrop21 : List (List UInt8 × V) := [([100, 101, 102, 32, 102, 48, 58, 32, 102, 48, 59, 32, 100, 101, 102, 32, 102, 49, 58, 32, 102, 48, 59, 32, 32, 32, 32, 49], (.tup [(.fsl 56 3 0 [(.agg [(.int .i64 12), (.int .i64 23), (.str [])])] .none), (.int .u16 0)]))]
theorem tDrop21_ok : ckT Tryz.prog E3 1000000 6 tDrop21 = true := by kernel_rfl
def tDrop23 : List (List UInt8 × V) := [([32, 32, 32, 32, 32, 49], (.tup [.nils, (.int .u16 0)]))]
theorem tDrop23_ok : ckT Tryz.prog E3 1000000 6 tDrop23 = true := by kernel_rfl
def tDrop25 : List (List UInt8 × V) := [([100, 101, 102, 32, 102, 48, 58, 32, 102, 48, 59, 32, 100, 101, 102, 32, 102, 49, 58, 32, 102, 48, 59, 32, 100, 101, 102, 32, 102, 50, 58, 32, 102, 49, 59, 32, 100, 101, 102, 32, 102, 51, 58, 32, 102, 50, 59, 32, 100, 101, 102, 32, 102, 52, 58, 32, 102, 51, 59, 32, 100, 101, 102, 32, 102, 53, 58, 32, 102, 52, 59, 32, 49], (.tup [(.fsl 56 3 0 [(.agg [(.int .i64 60), (.int .i64 71), (.str [])])] .none), (.int .u16 0)]))]
theorem tDrop25_ok : ckT Tryz.prog E3 1000000 6 tDrop25 = true := by kernel_rfl
def tDrop27 : List (List UInt8 × V) := [([100, 101, 102, 32, 102, 48, 58, 32, 102, 48, 59, 32, 100, 101, 102, 32, 102, 49, 58, 32, 102, 48, 59, 32, 100, 101, 102, 32, 102, 50, 58, 32, 102, 49, 59, 32, 100, 101, 102, 32, 102, 51, 58, 32, 102, 50, 59, 32, 32, 32, 49], (.tup [(.fsl 56 3 0 [(.agg [(.int .i64 36), (.int .i64 47), (.str [])])] .none), (.int .u16 0)]))]
theorem tDrop27_ok : ckT Tryz.prog E3 1000000 6 tDrop27 = true := by kernel_rfl
def tDrop29 : List (List UInt8 × V) := [([100, 101, 102, 32, 102, 48, 58, 32, 102, 48, 59, 32, 100, 101, 102, 32, 102, 49, 58, 32, 102, 48, 59, 32, 32, 32, 32, 32, 49], (.tup [(.fsl 56 3 0 [(.agg [(.int .i64 12), (.int .i64 23), (.str [])])] .none), (.int .u16 0)]))]
theorem tDrop29_ok : ckT Tryz.prog E3 1000000 6 tDrop29 = true := by kernel_rfl
def tDrop31 : List (List UInt8 × V) := [([32, 32, 32, 32, 32, 32, 49], (.tup [.nils, (.int .u16 0)]))]
theorem tDrop31_ok : ckT Tryz.prog E3 1000000 6 tDrop31 = true := by kernel_rfl

end Go.AM
