/-
  CALLS OF TEXTS, RUN ONCE: a part of a table. No condition.
-/
import Derived.Test.YtlkbeldimoinjaaGreatDoorAmEnv
namespace Go.AM
open Go.Proofs
set_option maxRecDepth 100000

def tParse0 : List (List UInt8 × V) := [([46, 32, 97, 115, 32, 36, 120, 32, 124, 32, 46, 32, 97, 115, 32, 36, 121, 32, 124, 32, 36, 120], (.tup [(.agg [(.int .i64 26), (.str []), (.gsl 3 [(.agg [(.int .i64 1), (.str []), .nils]), (.agg [(.int .i64 4), (.str [120]), .nils]), (.agg [(.int .i64 26), (.str []), (.gsl 3 [(.agg [(.int .i64 1), (.str []), .nils]), (.agg [(.int .i64 4), (.str [121]), .nils]), (.agg [(.int .i64 4), (.str [120]), .nils])] .none)])] .none)]), (.int .u16 0), (.int .i64 0)]))]
theorem tParse0_ok : ckT Tryz.prog E2 1000000 13 tParse0 = true := by kernel_rfl
def tParse3 : List (List UInt8 × V) := [([100, 101, 102, 32, 121, 58, 32, 49, 59, 32, 100, 101, 102, 32, 120, 58, 32, 50, 59, 32, 121], (.tup [(.agg [(.int .i64 29), (.str [121]), (.gsl 3 [(.agg [(.int .i64 5), (.str [49]), .nils]), (.agg [(.int .i64 29), (.str [120]), (.gsl 3 [(.agg [(.int .i64 5), (.str [50]), .nils]), (.agg [(.int .i64 13), (.str [121]), .nils])] .none)])] .none)]), (.int .u16 0), (.int .i64 0)]))]
theorem tParse3_ok : ckT Tryz.prog E2 1000000 13 tParse3 = true := by kernel_rfl
def tParse6 : List (List UInt8 × V) := [([46, 32, 97, 115, 32, 36, 121, 32, 124, 32, 46, 32, 97, 115, 32, 36, 121, 32, 124, 32, 36, 121], (.tup [(.agg [(.int .i64 26), (.str []), (.gsl 3 [(.agg [(.int .i64 1), (.str []), .nils]), (.agg [(.int .i64 4), (.str [121]), .nils]), (.agg [(.int .i64 26), (.str []), (.gsl 3 [(.agg [(.int .i64 1), (.str []), .nils]), (.agg [(.int .i64 4), (.str [121]), .nils]), (.agg [(.int .i64 4), (.str [121]), .nils])] .none)])] .none)]), (.int .u16 0), (.int .i64 0)]))]
theorem tParse6_ok : ckT Tryz.prog E2 1000000 13 tParse6 = true := by kernel_rfl
def tParse9 : List (List UInt8 × V) := [([100, 101, 102, 32, 102, 40, 121, 41, 58, 32, 100, 101, 102, 32, 121, 58, 32, 50, 59, 32, 121, 59, 32, 102, 40, 49, 41], (.tup [(.agg [(.int .i64 29), (.str [102]), (.gsl 3 [(.agg [(.int .i64 30), (.str [121]), .nils]), (.agg [(.int .i64 29), (.str [121]), (.gsl 3 [(.agg [(.int .i64 5), (.str [50]), .nils]), (.agg [(.int .i64 13), (.str [121]), .nils])] .none)]), (.agg [(.int .i64 13), (.str [102]), (.gsl 3 [(.agg [(.int .i64 5), (.str [49]), .nils])] (.some 1))])] .none)]), (.int .u16 0), (.int .i64 0)]))]
theorem tParse9_ok : ckT Tryz.prog E2 1000000 13 tParse9 = true := by kernel_rfl
def tParse12 : List (List UInt8 × V) := [([46, 32, 97, 115, 32, 36, 120, 32, 124, 32, 121, 32, 124, 32, 36, 120], (.tup [(.agg [(.int .i64 26), (.str []), (.gsl 3 [(.agg [(.int .i64 1), (.str []), .nils]), (.agg [(.int .i64 4), (.str [120]), .nils]), (.agg [(.int .i64 24), (.str [124]), (.gsl 3 [(.agg [(.int .i64 13), (.str [121]), .nils]), (.agg [(.int .i64 4), (.str [120]), .nils])] (.some 2))])] .none)]), (.int .u16 0), (.int .i64 0)]))]
theorem tParse12_ok : ckT Tryz.prog E2 1000000 13 tParse12 = true := by kernel_rfl
def tParse15 : List (List UInt8 × V) := [([100, 101, 102, 32, 121, 58, 32, 49, 59, 32, 100, 101, 102, 32, 121, 40, 97, 41, 58, 32, 50, 59, 32, 121], (.tup [(.agg [(.int .i64 29), (.str [121]), (.gsl 3 [(.agg [(.int .i64 5), (.str [49]), .nils]), (.agg [(.int .i64 29), (.str [121]), (.gsl 3 [(.agg [(.int .i64 30), (.str [97]), .nils]), (.agg [(.int .i64 5), (.str [50]), .nils]), (.agg [(.int .i64 13), (.str [121]), .nils])] .none)])] .none)]), (.int .u16 0), (.int .i64 0)]))]
theorem tParse15_ok : ckT Tryz.prog E2 1000000 13 tParse15 = true := by kernel_rfl
def tParse18 : List (List UInt8 × V) := [([46, 32, 97, 115, 32, 123, 36, 120, 125, 32, 124, 32, 36, 120], (.tup [(.agg [(.int .i64 26), (.str []), (.gsl 3 [(.agg [(.int .i64 1), (.str []), .nils]), (.agg [(.int .i64 36), (.str []), (.gsl 3 [(.agg [(.int .i64 37), (.str []), (.gsl 3 [(.agg [(.int .i64 4), (.str [120]), .nils])] (.some 1))])] (.some 1))]), (.agg [(.int .i64 4), (.str [120]), .nils])] .none)]), (.int .u16 0), (.int .i64 0)]))]
theorem tParse18_ok : ckT Tryz.prog E2 1000000 13 tParse18 = true := by kernel_rfl
def tParse21 : List (List UInt8 × V) := [([100, 101, 102, 32, 102, 40, 36, 120, 41, 58, 32, 123, 36, 120, 125, 59, 32, 102, 40, 49, 41], (.tup [(.agg [(.int .i64 29), (.str [102]), (.gsl 3 [(.agg [(.int .i64 30), (.str [36, 120]), .nils]), (.agg [(.int .i64 10), (.str []), (.gsl 3 [(.agg [(.int .i64 11), (.str []), (.gsl 3 [(.agg [(.int .i64 4), (.str [120]), .nils])] (.some 1))])] (.some 1))]), (.agg [(.int .i64 13), (.str [102]), (.gsl 3 [(.agg [(.int .i64 5), (.str [49]), .nils])] (.some 1))])] .none)]), (.int .u16 0), (.int .i64 0)]))]
theorem tParse21_ok : ckT Tryz.prog E2 1000000 13 tParse21 = true := by kernel_rfl
def tParse24 : List (List UInt8 × V) := [([46, 32, 97, 115, 32, 36, 120, 32, 124, 32, 36, 120], (.tup [(.agg [(.int .i64 26), (.str []), (.gsl 3 [(.agg [(.int .i64 1), (.str []), .nils]), (.agg [(.int .i64 4), (.str [120]), .nils]), (.agg [(.int .i64 4), (.str [120]), .nils])] .none)]), (.int .u16 0), (.int .i64 0)]))]
theorem tParse24_ok : ckT Tryz.prog E2 1000000 13 tParse24 = true := by kernel_rfl
def tParse27 : List (List UInt8 × V) := [([46, 32, 97, 115, 32, 36, 121, 32, 124, 32, 49, 32, 97, 115, 32, 36, 121, 32, 124, 32, 36, 121], (.tup [(.agg [(.int .i64 26), (.str []), (.gsl 3 [(.agg [(.int .i64 1), (.str []), .nils]), (.agg [(.int .i64 4), (.str [121]), .nils]), (.agg [(.int .i64 26), (.str []), (.gsl 3 [(.agg [(.int .i64 5), (.str [49]), .nils]), (.agg [(.int .i64 4), (.str [121]), .nils]), (.agg [(.int .i64 4), (.str [121]), .nils])] .none)])] .none)]), (.int .u16 0), (.int .i64 0)]))]
theorem tParse27_ok : ckT Tryz.prog E2 1000000 13 tParse27 = true := by kernel_rfl

end Go.AM
