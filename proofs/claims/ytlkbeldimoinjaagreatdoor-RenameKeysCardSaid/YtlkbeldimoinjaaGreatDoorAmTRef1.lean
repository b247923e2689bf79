/-
  CALLS OF TEXTS, RUN ONCE: a part of a table. No condition.
-/
import Derived.Test.YtlkbeldimoinjaaGreatDoorAmEnvB
namespace Go.AM
open Go.Proofs
set_option maxRecDepth 100000

def tRef1 : List (List UInt8 × V) := [([46, 32, 97, 115, 32, 36, 121, 32, 124, 32, 46, 32, 97, 115, 32, 36, 120, 32, 124, 32, 36, 121], (.tup [(.agg [(.int .i64 26), (.str []), (.gsl 3 [(.agg [(.int .i64 1), (.str []), .nils]), (.agg [(.int .i64 4), (.str [121]), .nils]), (.agg [(.int .i64 26), (.str []), (.gsl 3 [(.agg [(.int .i64 1), (.str []), .nils]), (.agg [(.int .i64 4), (.str [120]), .nils]), (.agg [(.int .i64 4), (.str [121]), .nils])] (.some 3))])] (.some 3))]), (.int .i64 0), (.int .i64 0)]))]
theorem tRef1_ok : ckT Tryz.prog E2 1000000 5 tRef1 = true := by kernel_rfl
def tRef4 : List (List UInt8 × V) := [([108, 97, 98, 101, 108, 32, 36, 120, 32, 124, 32, 108, 97, 98, 101, 108, 32, 36, 121, 32, 124, 32, 98, 114, 101, 97, 107, 32, 36, 120], (.tup [(.agg [(.int .i64 27), (.str [120]), (.gsl 3 [(.agg [(.int .i64 27), (.str [121]), (.gsl 3 [(.agg [(.int .i64 28), (.str [120]), .nils])] (.some 1))])] (.some 1))]), (.int .i64 0), (.int .i64 0)]))]
theorem tRef4_ok : ckT Tryz.prog E2 1000000 5 tRef4 = true := by kernel_rfl
def tRef7 : List (List UInt8 × V) := [([100, 101, 102, 32, 120, 58, 32, 49, 59, 32, 100, 101, 102, 32, 121, 40, 97, 41, 58, 32, 50, 59, 32, 120], (.tup [(.agg [(.int .i64 29), (.str [120]), (.gsl 3 [(.agg [(.int .i64 5), (.str [49]), .nils]), (.agg [(.int .i64 29), (.str [121]), (.gsl 3 [(.agg [(.int .i64 30), (.str [97]), .nils]), (.agg [(.int .i64 5), (.str [50]), .nils]), (.agg [(.int .i64 13), (.str [120]), .nils])] .none)])] .none)]), (.int .i64 0), (.int .i64 0)]))]
theorem tRef7_ok : ckT Tryz.prog E2 1000000 5 tRef7 = true := by kernel_rfl
def tRef10 : List (List UInt8 × V) := [([46, 32, 97, 115, 32, 123, 36, 120, 125, 32, 124, 32, 36, 120], (.tup [(.agg [(.int .i64 26), (.str []), (.gsl 3 [(.agg [(.int .i64 1), (.str []), .nils]), (.agg [(.int .i64 36), (.str []), (.gsl 3 [(.agg [(.int .i64 37), (.str []), (.gsl 3 [(.agg [(.int .i64 4), (.str [120]), .nils])] (.some 1))])] .none)]), (.agg [(.int .i64 4), (.str [120]), .nils])] (.some 3))]), (.int .i64 0), (.int .i64 0)]))]
theorem tRef10_ok : ckT Tryz.prog E2 1000000 5 tRef10 = true := by kernel_rfl
def tRef13 : List (List UInt8 × V) := [([100, 101, 102, 32, 102, 40, 36, 120, 41, 58, 32, 123, 36, 120, 125, 59, 32, 102, 40, 49, 41], (.tup [(.agg [(.int .i64 29), (.str [102]), (.gsl 3 [(.agg [(.int .i64 30), (.str [36, 120]), .nils]), (.agg [(.int .i64 10), (.str []), (.gsl 3 [(.agg [(.int .i64 11), (.str []), (.gsl 3 [(.agg [(.int .i64 4), (.str [120]), .nils])] (.some 1))])] .none)]), (.agg [(.int .i64 13), (.str [102]), (.gsl 3 [(.agg [(.int .i64 5), (.str [49]), .nils])] .none)])] .none)]), (.int .i64 0), (.int .i64 0)]))]
theorem tRef13_ok : ckT Tryz.prog E2 1000000 5 tRef13 = true := by kernel_rfl

end Go.AM
