/-
  CALLS OF TEXTS, RUN ONCE: a part of a table. No condition.
-/
import Derived.Test.YtaahfplokcfncaaGreatDoorAmEnvBB
namespace Go.AM
open Go.Proofs
set_option maxRecDepth 100000

def tDrop0 : List (List UInt8 × V) := [([100, 101, 102, 32, 102, 48, 58, 32, 102, 48, 59, 32, 49], (.tup [(.fsl 56 3 0 [(.agg [(.int .i64 0), (.int .i64 11), (.str [])])] .none), (.int .u16 0)]))]
theorem tDrop0_ok : ckT Tryz.prog E3 1000000 6 tDrop0 = true := by kernel_rfl
def tDrop2 : List (List UInt8 × V) := [([100, 101, 102, 32, 102, 48, 58, 32, 102, 48, 59, 32, 102, 48], (.tup [.nils, (.int .u16 0)]))]
theorem tDrop2_ok : ckT Tryz.prog E3 1000000 6 tDrop2 = true := by kernel_rfl
def tDrop4 : List (List UInt8 × V) := [([100, 101, 102, 32, 102, 48, 58, 32, 102, 48, 59, 32, 32, 49], (.tup [(.fsl 56 3 0 [(.agg [(.int .i64 0), (.int .i64 11), (.str [])])] .none), (.int .u16 0)]))]
theorem tDrop4_ok : ckT Tryz.prog E3 1000000 6 tDrop4 = true := by kernel_rfl
def tDrop6 : List (List UInt8 × V) := [([100, 101, 102, 32, 102, 48, 58, 32, 102, 48, 59, 32, 100, 101, 102, 32, 102, 49, 58, 32, 102, 48, 59, 32, 102, 49], (.tup [.nils, (.int .u16 0)]))]
theorem tDrop6_ok : ckT Tryz.prog E3 1000000 6 tDrop6 = true := by kernel_rfl
def tDrop8 : List (List UInt8 × V) := [([100, 101, 102, 32, 102, 48, 58, 32, 102, 48, 59, 32, 100, 101, 102, 32, 102, 49, 58, 32, 102, 48, 59, 32, 32, 49], (.tup [(.fsl 56 3 0 [(.agg [(.int .i64 12), (.int .i64 23), (.str [])])] .none), (.int .u16 0)]))]
theorem tDrop8_ok : ckT Tryz.prog E3 1000000 6 tDrop8 = true := by kernel_rfl
def tDrop10 : List (List UInt8 × V) := [([32, 32, 32, 49], (.tup [.nils, (.int .u16 0)]))]
theorem tDrop10_ok : ckT Tryz.prog E3 1000000 6 tDrop10 = true := by kernel_rfl
def tDrop12 : List (List UInt8 × V) := [([100, 101, 102, 32, 102, 48, 58, 32, 102, 48, 59, 32, 100, 101, 102, 32, 102, 49, 58, 32, 102, 48, 59, 32, 100, 101, 102, 32, 102, 50, 58, 32, 102, 49, 59, 32, 100, 101, 102, 32, 102, 51, 58, 32, 102, 50, 59, 32, 49], (.tup [(.fsl 56 3 0 [(.agg [(.int .i64 36), (.int .i64 47), (.str [])])] .none), (.int .u16 0)]))]
theorem tDrop12_ok : ckT Tryz.prog E3 1000000 6 tDrop12 = true := by kernel_rfl
def tDrop14 : List (List UInt8 × V) := [([100, 101, 102, 32, 102, 48, 58, 32, 102, 48, 59, 32, 100, 101, 102, 32, 102, 49, 58, 32, 102, 48, 59, 32, 32, 32, 49], (.tup [(.fsl 56 3 0 [(.agg [(.int .i64 12), (.int .i64 23), (.str [])])] .none), (.int .u16 0)]))]
theorem tDrop14_ok : ckT Tryz.prog E3 1000000 6 tDrop14 = true := by kernel_rfl
def tDrop16 : List (List UInt8 × V) := [([32, 32, 32, 32, 49], (.tup [.nils, (.int .u16 0)]))]
theorem tDrop16_ok : ckT Tryz.prog E3 1000000 6 tDrop16 = true := by kernel_rfl
def tDrop18 : List (List UInt8 × V) := [([100, 101, 102, 32, 102, 48, 58, 32, 102, 48, 59, 32, 100, 101, 102, 32, 102, 49, 58, 32, 102, 48, 59, 32, 100, 101, 102, 32, 102, 50, 58, 32, 102, 49, 59, 32, 100, 101, 102, 32, 102, 51, 58, 32, 102, 50, 59, 32, 100, 101, 102, 32, 102, 52, 58, 32, 102, 51, 59, 32, 49], (.tup [(.fsl 56 3 0 [(.agg [(.int .i64 48), (.int .i64 59), (.str [])])] .none), (.int .u16 0)]))]
theorem tDrop18_ok : ckT Tryz.prog E3 1000000 6 tDrop18 = true := by kernel_rfl
def tDrop20 : List (List UInt8 × V) := [([100, 101, 102, 32, 102, 48, 58, 32, 102, 48, 59, 32, 100, 101, 102, 32, 102, 49, 58, 32, 102, 48, 59, 32, 100, 101, 102, 32, 102, 50, 58, 32, 102, 49, 59, 32, 32, 32, 49], (.tup [(.fsl 56 3 0 [(.agg [(.int .i64 24), (.int .i64 35), (.str [])])] .none), (.int .u16 0)]))]
theorem tDrop20_ok : ckT Tryz.prog E3 1000000 6 tDrop20 = true := by kernel_rfl
def tDrop22 : List (List UInt8 × V) := [([100, 101, 102, 32, 102, 48, 58, 32, 102, 48, 59, 32, 32, 32, 32, 32, 49], (.tup [(.fsl 56 3 0 [(.agg [(.int .i64 0), (.int .i64 11), (.str [])])] .none), (.int .u16 0)]))]
theorem tDrop22_ok : ckT Tryz.prog E3 1000000 6 tDrop22 = true := by kernel_rfl
def tDrop24 : List (List UInt8 × V) := [([100, 101, 102, 32, 102, 48, 58, 32, 102, 48, 59, 32, 100, 101, 102, 32, 102, 49, 58, 32, 102, 48, 59, 32, 100, 101, 102, 32, 102, 50, 58, 32, 102, 49, 59, 32, 100, 101, 102, 32, 102, 51, 58, 32, 102, 50, 59, 32, 100, 101, 102, 32, 102, 52, 58, 32, 102, 51, 59, 32, 102, 52], (.tup [.nils, (.int .u16 0)]))]
theorem tDrop24_ok : ckT Tryz.prog E3 1000000 6 tDrop24 = true := by kernel_rfl
def tDrop26 : List (List UInt8 × V) := [([100, 101, 102, 32, 102, 48, 58, 32, 102, 48, 59, 32, 100, 101, 102, 32, 102, 49, 58, 32, 102, 48, 59, 32, 100, 101, 102, 32, 102, 50, 58, 32, 102, 49, 59, 32, 100, 101, 102, 32, 102, 51, 58, 32, 102, 50, 59, 32, 100, 101, 102, 32, 102, 52, 58, 32, 102, 51, 59, 32, 32, 49], (.tup [(.fsl 56 3 0 [(.agg [(.int .i64 48), (.int .i64 59), (.str [])])] .none), (.int .u16 0)]))]
theorem tDrop26_ok : ckT Tryz.prog E3 1000000 6 tDrop26 = true := by kernel_rfl
def tDrop28 : List (List UInt8 × V) := [([100, 101, 102, 32, 102, 48, 58, 32, 102, 48, 59, 32, 100, 101, 102, 32, 102, 49, 58, 32, 102, 48, 59, 32, 100, 101, 102, 32, 102, 50, 58, 32, 102, 49, 59, 32, 32, 32, 32, 49], (.tup [(.fsl 56 3 0 [(.agg [(.int .i64 24), (.int .i64 35), (.str [])])] .none), (.int .u16 0)]))]
theorem tDrop28_ok : ckT Tryz.prog E3 1000000 6 tDrop28 = true := by kernel_rfl
def tDrop30 : List (List UInt8 × V) := [([100, 101, 102, 32, 102, 48, 58, 32, 102, 48, 59, 32, 32, 32, 32, 32, 32, 49], (.tup [(.fsl 56 3 0 [(.agg [(.int .i64 0), (.int .i64 11), (.str [])])] .none), (.int .u16 0)]))]
theorem tDrop30_ok : ckT Tryz.prog E3 1000000 6 tDrop30 = true := by kernel_rfl
def tDrop32 : List (List UInt8 × V) := [([100, 101, 102, 32, 102, 48, 58, 32, 102, 48, 59, 32, 100, 101, 102, 32, 102, 49, 58, 32, 102, 48, 59, 32, 100, 101, 102, 32, 102, 50, 58, 32, 102, 49, 59, 32, 100, 101, 102, 32, 102, 51, 58, 32, 102, 50, 59, 32, 100, 101, 102, 32, 102, 52, 58, 32, 102, 51, 59, 32, 100, 101, 102, 32, 102, 53, 58, 32, 102, 52, 59, 32, 102, 53], (.tup [.nils, (.int .u16 0)]))]
theorem tDrop32_ok : ckT Tryz.prog E3 1000000 6 tDrop32 = true := by kernel_rfl

end Go.AM
