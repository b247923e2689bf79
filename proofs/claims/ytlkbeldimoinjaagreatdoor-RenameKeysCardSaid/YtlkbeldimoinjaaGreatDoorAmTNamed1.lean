/-
  CALLS OF WHATEVER DATA, RUN ONCE, in whichever order maps give their entries: a part of a table. No condition.
-/
import Derived.Test.YtlkbeldimoinjaaGreatDoorAmOrd0
namespace Go.AM
open Go.Proofs
set_option maxRecDepth 100000

def tNamed1 : List (List V × V) := [([(.agg [(.int .i64 26), (.str []), (.gsl 3 [(.agg [(.int .i64 1), (.str []), .nils]), (.agg [(.int .i64 4), (.str [121]), .nils]), (.agg [(.int .i64 26), (.str []), (.gsl 3 [(.agg [(.int .i64 1), (.str []), .nils]), (.agg [(.int .i64 4), (.str [120]), .nils]), (.agg [(.int .i64 4), (.str [121]), .nils])] (.some 3))])] (.some 3))])], (.int .i64 6))]
theorem tNamed1_ok : ckO Tryz.prog E4 1000000 200 7 tNamed1 = true := by kernel_rfl
def tNamed4 : List (List V × V) := [([(.agg [(.int .i64 27), (.str [120]), (.gsl 3 [(.agg [(.int .i64 27), (.str [121]), (.gsl 3 [(.agg [(.int .i64 28), (.str [120]), .nils])] (.some 1))])] (.some 1))])], (.int .i64 1))]
theorem tNamed4_ok : ckO Tryz.prog E4 1000000 200 7 tNamed4 = true := by kernel_rfl
def tNamed7 : List (List V × V) := [([(.agg [(.int .i64 29), (.str [120]), (.gsl 3 [(.agg [(.int .i64 5), (.str [49]), .nils]), (.agg [(.int .i64 29), (.str [121]), (.gsl 3 [(.agg [(.int .i64 30), (.str [97]), .nils]), (.agg [(.int .i64 5), (.str [50]), .nils]), (.agg [(.int .i64 13), (.str [120]), .nils])] .none)])] .none)])], (.int .i64 1))]
theorem tNamed7_ok : ckO Tryz.prog E4 1000000 200 7 tNamed7 = true := by kernel_rfl
def tNamed10 : List (List V × V) := [([(.agg [(.int .i64 26), (.str []), (.gsl 3 [(.agg [(.int .i64 1), (.str []), .nils]), (.agg [(.int .i64 36), (.str []), (.gsl 3 [(.agg [(.int .i64 37), (.str []), (.gsl 3 [(.agg [(.int .i64 4), (.str [120]), .nils])] (.some 1))])] .none)]), (.agg [(.int .i64 4), (.str [120]), .nils])] (.some 3))])], (.int .i64 3))]
theorem tNamed10_ok : ckO Tryz.prog E4 1000000 200 7 tNamed10 = true := by kernel_rfl
def tNamed13 : List (List V × V) := [([(.agg [(.int .i64 29), (.str [102]), (.gsl 3 [(.agg [(.int .i64 30), (.str [36, 120]), .nils]), (.agg [(.int .i64 10), (.str []), (.gsl 3 [(.agg [(.int .i64 11), (.str []), (.gsl 3 [(.agg [(.int .i64 4), (.str [120]), .nils])] (.some 1))])] .none)]), (.agg [(.int .i64 13), (.str [102]), (.gsl 3 [(.agg [(.int .i64 5), (.str [49]), .nils])] .none)])] .none)])], (.int .i64 3))]
theorem tNamed13_ok : ckO Tryz.prog E4 1000000 200 7 tNamed13 = true := by kernel_rfl

end Go.AM
