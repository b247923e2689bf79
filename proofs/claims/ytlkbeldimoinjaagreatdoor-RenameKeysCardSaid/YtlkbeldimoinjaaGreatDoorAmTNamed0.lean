/-
  CALLS OF WHATEVER DATA, RUN ONCE, in whichever order maps give their entries: a part of a table. No condition.
-/
import Derived.Test.YtlkbeldimoinjaaGreatDoorAmOrd0
namespace Go.AM
open Go.Proofs
set_option maxRecDepth 100000

def tNamed0 : List (List V × V) := [([(.agg [(.int .i64 26), (.str []), (.gsl 3 [(.agg [(.int .i64 1), (.str []), .nils]), (.agg [(.int .i64 4), (.str [120]), .nils]), (.agg [(.int .i64 26), (.str []), (.gsl 3 [(.agg [(.int .i64 1), (.str []), .nils]), (.agg [(.int .i64 4), (.str [121]), .nils]), (.agg [(.int .i64 4), (.str [120]), .nils])] (.some 3))])] (.some 3))])], (.int .i64 2))]
theorem tNamed0_ok : ckO Tryz.prog E4 1000000 200 7 tNamed0 = true := by kernel_rfl
def tNamed3 : List (List V × V) := [([(.agg [(.int .i64 29), (.str [121]), (.gsl 3 [(.agg [(.int .i64 5), (.str [49]), .nils]), (.agg [(.int .i64 29), (.str [120]), (.gsl 3 [(.agg [(.int .i64 5), (.str [50]), .nils]), (.agg [(.int .i64 13), (.str [121]), .nils])] .none)])] .none)])], (.int .i64 6))]
theorem tNamed3_ok : ckO Tryz.prog E4 1000000 200 7 tNamed3 = true := by kernel_rfl
def tNamed6 : List (List V × V) := [([(.agg [(.int .i64 26), (.str []), (.gsl 3 [(.agg [(.int .i64 1), (.str []), .nils]), (.agg [(.int .i64 4), (.str [120]), .nils]), (.agg [(.int .i64 24), (.str [44]), (.gsl 3 [(.agg [(.int .i64 9), (.str []), (.gsl 3 [(.agg [(.int .i64 26), (.str []), (.gsl 3 [(.agg [(.int .i64 1), (.str []), .nils]), (.agg [(.int .i64 4), (.str [121]), .nils]), (.agg [(.int .i64 4), (.str [121]), .nils])] (.some 3))])] (.some 1))]), (.agg [(.int .i64 4), (.str [120]), .nils])] (.some 2))])] (.some 3))])], (.int .i64 2))]
theorem tNamed6_ok : ckO Tryz.prog E4 1000000 200 7 tNamed6 = true := by kernel_rfl
def tNamed9 : List (List V × V) := [([(.agg [(.int .i64 29), (.str [120]), (.gsl 3 [(.agg [(.int .i64 5), (.str [49]), .nils]), (.agg [(.int .i64 26), (.str []), (.gsl 3 [(.agg [(.int .i64 1), (.str []), .nils]), (.agg [(.int .i64 4), (.str [121]), .nils]), (.agg [(.int .i64 24), (.str [124]), (.gsl 3 [(.agg [(.int .i64 13), (.str [120]), .nils]), (.agg [(.int .i64 4), (.str [121]), .nils])] (.some 2))])] (.some 3))])] .none)])], (.int .i64 1))]
theorem tNamed9_ok : ckO Tryz.prog E4 1000000 200 7 tNamed9 = true := by kernel_rfl
def tNamed12 : List (List V × V) := [([(.agg [(.int .i64 26), (.str []), (.gsl 3 [(.agg [(.int .i64 1), (.str []), .nils]), (.agg [(.int .i64 4), (.str [120]), .nils]), (.agg [(.int .i64 10), (.str []), (.gsl 3 [(.agg [(.int .i64 11), (.str []), (.gsl 3 [(.agg [(.int .i64 4), (.str [120]), .nils])] (.some 1))])] .none)])] (.some 3))])], (.int .i64 2))]
theorem tNamed12_ok : ckO Tryz.prog E4 1000000 200 7 tNamed12 = true := by kernel_rfl

end Go.AM
