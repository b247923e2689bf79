/-
  CALLS OF TEXTS, RUN ONCE: a part of a table. No condition.
-/
import Derived.Test.YtlkbeldimoinjaaGreatDoorAmEnvB
namespace Go.AM
open Go.Proofs
set_option maxRecDepth 100000

def tRef2 : List (List UInt8 × V) := [([100, 101, 102, 32, 120, 58, 32, 49, 59, 32, 100, 101, 102, 32, 121, 58, 32, 50, 59, 32, 120], (.tup [(.agg [(.int .i64 29), (.str [120]), (.gsl 3 [(.agg [(.int .i64 5), (.str [49]), .nils]), (.agg [(.int .i64 29), (.str [121]), (.gsl 3 [(.agg [(.int .i64 5), (.str [50]), .nils]), (.agg [(.int .i64 13), (.str [120]), .nils])] .none)])] .none)]), (.int .i64 0), (.int .i64 0)]))]
theorem tRef2_ok : ckT Tryz.prog E2 1000000 5 tRef2 = true := by kernel_rfl
def tRef5 : List (List UInt8 × V) := [([100, 101, 102, 32, 102, 40, 120, 41, 58, 32, 100, 101, 102, 32, 121, 58, 32, 50, 59, 32, 120, 59, 32, 102, 40, 49, 41], (.tup [(.agg [(.int .i64 29), (.str [102]), (.gsl 3 [(.agg [(.int .i64 30), (.str [120]), .nils]), (.agg [(.int .i64 29), (.str [121]), (.gsl 3 [(.agg [(.int .i64 5), (.str [50]), .nils]), (.agg [(.int .i64 13), (.str [120]), .nils])] .none)]), (.agg [(.int .i64 13), (.str [102]), (.gsl 3 [(.agg [(.int .i64 5), (.str [49]), .nils])] .none)])] .none)]), (.int .i64 0), (.int .i64 0)]))]
theorem tRef5_ok : ckT Tryz.prog E2 1000000 5 tRef5 = true := by kernel_rfl
def tRef8 : List (List UInt8 × V) := [([46, 32, 97, 115, 32, 36, 120, 32, 124, 32, 121, 32, 124, 32, 36, 120], (.tup [(.agg [(.int .i64 26), (.str []), (.gsl 3 [(.agg [(.int .i64 1), (.str []), .nils]), (.agg [(.int .i64 4), (.str [120]), .nils]), (.agg [(.int .i64 24), (.str [124]), (.gsl 3 [(.agg [(.int .i64 13), (.str [121]), .nils]), (.agg [(.int .i64 4), (.str [120]), .nils])] (.some 2))])] (.some 3))]), (.int .i64 0), (.int .i64 0)]))]
theorem tRef8_ok : ckT Tryz.prog E2 1000000 5 tRef8 = true := by kernel_rfl
def tRef11 : List (List UInt8 × V) := [([46, 32, 97, 115, 32, 123, 36, 120, 58, 32, 91, 36, 122, 93, 125, 32, 124, 32, 36, 120], (.tup [(.agg [(.int .i64 26), (.str []), (.gsl 3 [(.agg [(.int .i64 1), (.str []), .nils]), (.agg [(.int .i64 36), (.str []), (.gsl 3 [(.agg [(.int .i64 37), (.str []), (.gsl 3 [(.agg [(.int .i64 4), (.str [120]), .nils]), (.agg [(.int .i64 35), (.str []), (.gsl 3 [(.agg [(.int .i64 4), (.str [122]), .nils])] .none)])] .none)])] .none)]), (.agg [(.int .i64 4), (.str [120]), .nils])] (.some 3))]), (.int .i64 0), (.int .i64 0)]))]
theorem tRef11_ok : ckT Tryz.prog E2 1000000 5 tRef11 = true := by kernel_rfl

end Go.AM
