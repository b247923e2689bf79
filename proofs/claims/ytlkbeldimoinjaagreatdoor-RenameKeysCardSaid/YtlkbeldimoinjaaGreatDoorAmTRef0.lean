/-
  CALLS OF TEXTS, RUN ONCE: a part of a table. No condition.
-/
import Derived.Test.YtlkbeldimoinjaaGreatDoorAmEnvB
namespace Go.AM
open Go.Proofs
set_option maxRecDepth 100000

def tRef0 : List (List UInt8 × V) := [([46, 32, 97, 115, 32, 36, 120, 32, 124, 32, 46, 32, 97, 115, 32, 36, 121, 32, 124, 32, 36, 120], (.tup [(.agg [(.int .i64 26), (.str []), (.gsl 3 [(.agg [(.int .i64 1), (.str []), .nils]), (.agg [(.int .i64 4), (.str [120]), .nils]), (.agg [(.int .i64 26), (.str []), (.gsl 3 [(.agg [(.int .i64 1), (.str []), .nils]), (.agg [(.int .i64 4), (.str [121]), .nils]), (.agg [(.int .i64 4), (.str [120]), .nils])] (.some 3))])] (.some 3))]), (.int .i64 0), (.int .i64 0)]))]
theorem tRef0_ok : ckT Tryz.prog E2 1000000 5 tRef0 = true := by kernel_rfl
def tRef3 : List (List UInt8 × V) := [([100, 101, 102, 32, 121, 58, 32, 49, 59, 32, 100, 101, 102, 32, 120, 58, 32, 50, 59, 32, 121], (.tup [(.agg [(.int .i64 29), (.str [121]), (.gsl 3 [(.agg [(.int .i64 5), (.str [49]), .nils]), (.agg [(.int .i64 29), (.str [120]), (.gsl 3 [(.agg [(.int .i64 5), (.str [50]), .nils]), (.agg [(.int .i64 13), (.str [121]), .nils])] .none)])] .none)]), (.int .i64 0), (.int .i64 0)]))]
theorem tRef3_ok : ckT Tryz.prog E2 1000000 5 tRef3 = true := by kernel_rfl
def tRef6 : List (List UInt8 × V) := [([46, 32, 97, 115, 32, 36, 120, 32, 124, 32, 91, 46, 32, 97, 115, 32, 36, 121, 32, 124, 32, 36, 121, 93, 44, 32, 36, 120], (.tup [(.agg [(.int .i64 26), (.str []), (.gsl 3 [(.agg [(.int .i64 1), (.str []), .nils]), (.agg [(.int .i64 4), (.str [120]), .nils]), (.agg [(.int .i64 24), (.str [44]), (.gsl 3 [(.agg [(.int .i64 9), (.str []), (.gsl 3 [(.agg [(.int .i64 26), (.str []), (.gsl 3 [(.agg [(.int .i64 1), (.str []), .nils]), (.agg [(.int .i64 4), (.str [121]), .nils]), (.agg [(.int .i64 4), (.str [121]), .nils])] (.some 3))])] (.some 1))]), (.agg [(.int .i64 4), (.str [120]), .nils])] (.some 2))])] (.some 3))]), (.int .i64 0), (.int .i64 0)]))]
theorem tRef6_ok : ckT Tryz.prog E2 1000000 5 tRef6 = true := by kernel_rfl
def tRef9 : List (List UInt8 × V) := [([100, 101, 102, 32, 120, 58, 32, 49, 59, 32, 46, 32, 97, 115, 32, 36, 121, 32, 124, 32, 120, 32, 124, 32, 36, 121], (.tup [(.agg [(.int .i64 29), (.str [120]), (.gsl 3 [(.agg [(.int .i64 5), (.str [49]), .nils]), (.agg [(.int .i64 26), (.str []), (.gsl 3 [(.agg [(.int .i64 1), (.str []), .nils]), (.agg [(.int .i64 4), (.str [121]), .nils]), (.agg [(.int .i64 24), (.str [124]), (.gsl 3 [(.agg [(.int .i64 13), (.str [120]), .nils]), (.agg [(.int .i64 4), (.str [121]), .nils])] (.some 2))])] (.some 3))])] .none)]), (.int .i64 0), (.int .i64 0)]))]
theorem tRef9_ok : ckT Tryz.prog E2 1000000 5 tRef9 = true := by kernel_rfl
def tRef12 : List (List UInt8 × V) := [([46, 32, 97, 115, 32, 36, 120, 32, 124, 32, 123, 36, 120, 125], (.tup [(.agg [(.int .i64 26), (.str []), (.gsl 3 [(.agg [(.int .i64 1), (.str []), .nils]), (.agg [(.int .i64 4), (.str [120]), .nils]), (.agg [(.int .i64 10), (.str []), (.gsl 3 [(.agg [(.int .i64 11), (.str []), (.gsl 3 [(.agg [(.int .i64 4), (.str [120]), .nils])] (.some 1))])] .none)])] (.some 3))]), (.int .i64 0), (.int .i64 0)]))]
theorem tRef12_ok : ckT Tryz.prog E2 1000000 5 tRef12 = true := by kernel_rfl

end Go.AM
