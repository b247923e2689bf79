/-
  CALLS OF WHATEVER DATA, RUN ONCE, in whichever order maps give their entries: a part of a table. No condition.
-/
import Derived.Test.YtlkbeldimoinjaaGreatDoorAmOrd0
namespace Go.AM
open Go.Proofs
set_option maxRecDepth 100000

def tNamed2 : List (List V × V) := [([(.agg [(.int .i64 29), (.str [120]), (.gsl 3 [(.agg [(.int .i64 5), (.str [49]), .nils]), (.agg [(.int .i64 29), (.str [121]), (.gsl 3 [(.agg [(.int .i64 5), (.str [50]), .nils]), (.agg [(.int .i64 13), (.str [120]), .nils])] .none)])] .none)])], (.int .i64 1))]
theorem tNamed2_ok : ckO Tryz.prog E4 1000000 200 7 tNamed2 = true := by kernel_rfl
def tNamed5 : List (List V × V) := [([(.agg [(.int .i64 29), (.str [102]), (.gsl 3 [(.agg [(.int .i64 30), (.str [120]), .nils]), (.agg [(.int .i64 29), (.str [121]), (.gsl 3 [(.agg [(.int .i64 5), (.str [50]), .nils]), (.agg [(.int .i64 13), (.str [120]), .nils])] .none)]), (.agg [(.int .i64 13), (.str [102]), (.gsl 3 [(.agg [(.int .i64 5), (.str [49]), .nils])] .none)])] .none)])], (.int .i64 3))]
theorem tNamed5_ok : ckO Tryz.prog E4 1000000 200 7 tNamed5 = true := by kernel_rfl
def tNamed8 : List (List V × V) := [([(.agg [(.int .i64 26), (.str []), (.gsl 3 [(.agg [(.int .i64 1), (.str []), .nils]), (.agg [(.int .i64 4), (.str [120]), .nils]), (.agg [(.int .i64 24), (.str [124]), (.gsl 3 [(.agg [(.int .i64 13), (.str [121]), .nils]), (.agg [(.int .i64 4), (.str [120]), .nils])] (.some 2))])] (.some 3))])], (.int .i64 2))]
theorem tNamed8_ok : ckO Tryz.prog E4 1000000 200 7 tNamed8 = true := by kernel_rfl
def tNamed11 : List (List V × V) := [([(.agg [(.int .i64 26), (.str []), (.gsl 3 [(.agg [(.int .i64 1), (.str []), .nils]), (.agg [(.int .i64 36), (.str []), (.gsl 3 [(.agg [(.int .i64 37), (.str []), (.gsl 3 [(.agg [(.int .i64 4), (.str [120]), .nils]), (.agg [(.int .i64 35), (.str []), (.gsl 3 [(.agg [(.int .i64 4), (.str [122]), .nils])] .none)])] .none)])] .none)]), (.agg [(.int .i64 4), (.str [120]), .nils])] (.some 3))])], (.int .i64 3))]
theorem tNamed11_ok : ckO Tryz.prog E4 1000000 200 7 tNamed11 = true := by kernel_rfl

end Go.AM
