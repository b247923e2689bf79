/-
  CALLS OF WHATEVER DATA, RUN ONCE, in whichever order maps give their entries: a part of a table. No condition.
-/
import Derived.Test.YtlkbeldimoinjaaGreatDoorAmEnvBB
namespace Go.AM
open Go.Proofs
set_option maxRecDepth 100000

def tNames1 : List (List V × V) := [([(.agg [(.int .i64 26), (.str []), (.gsl 3 [(.agg [(.int .i64 1), (.str []), .nils]), (.agg [(.int .i64 4), (.str [121]), .nils]), (.agg [(.int .i64 26), (.str []), (.gsl 3 [(.agg [(.int .i64 1), (.str []), .nils]), (.agg [(.int .i64 4), (.str [120]), .nils]), (.agg [(.int .i64 4), (.str [121]), .nils])] .none)])] .none)]), (.int .i64 6)], (.fsl 3 1 0 [(.int .i64 6)] .none))]
theorem tNames1_ok : ckO Tryz.prog E3 1000000 200 14 tNames1 = true := by kernel_rfl
def tNames3 : List (List V × V) := [([(.agg [(.int .i64 29), (.str [121]), (.gsl 3 [(.agg [(.int .i64 5), (.str [49]), .nils]), (.agg [(.int .i64 29), (.str [120]), (.gsl 3 [(.agg [(.int .i64 5), (.str [50]), .nils]), (.agg [(.int .i64 13), (.str [121]), .nils])] .none)])] .none)]), (.int .i64 6)], (.fsl 3 1 0 [(.int .i64 6)] .none))]
theorem tNames3_ok : ckO Tryz.prog E3 1000000 200 14 tNames3 = true := by kernel_rfl
def tNames5 : List (List V × V) := [([(.agg [(.int .i64 29), (.str [102]), (.gsl 3 [(.agg [(.int .i64 30), (.str [120]), .nils]), (.agg [(.int .i64 29), (.str [121]), (.gsl 3 [(.agg [(.int .i64 5), (.str [50]), .nils]), (.agg [(.int .i64 13), (.str [120]), .nils])] .none)]), (.agg [(.int .i64 13), (.str [102]), (.gsl 3 [(.agg [(.int .i64 5), (.str [49]), .nils])] (.some 1))])] .none)]), (.int .i64 3)], (.fsl 3 1 0 [(.int .i64 3), (.int .i64 11)] .none))]
theorem tNames5_ok : ckO Tryz.prog E3 1000000 200 14 tNames5 = true := by kernel_rfl
def tNames7 : List (List V × V) := [([(.agg [(.int .i64 29), (.str [120]), (.gsl 3 [(.agg [(.int .i64 5), (.str [49]), .nils]), (.agg [(.int .i64 29), (.str [121]), (.gsl 3 [(.agg [(.int .i64 30), (.str [97]), .nils]), (.agg [(.int .i64 5), (.str [50]), .nils]), (.agg [(.int .i64 13), (.str [120]), .nils])] .none)])] .none)]), (.int .i64 1)], (.fsl 3 1 0 [(.int .i64 1), (.int .i64 13)] .none))]
theorem tNames7_ok : ckO Tryz.prog E3 1000000 200 14 tNames7 = true := by kernel_rfl
def tNames9 : List (List V × V) := [([(.agg [(.int .i64 29), (.str [120]), (.gsl 3 [(.agg [(.int .i64 5), (.str [49]), .nils]), (.agg [(.int .i64 26), (.str []), (.gsl 3 [(.agg [(.int .i64 1), (.str []), .nils]), (.agg [(.int .i64 4), (.str [121]), .nils]), (.agg [(.int .i64 24), (.str [124]), (.gsl 3 [(.agg [(.int .i64 13), (.str [120]), .nils]), (.agg [(.int .i64 4), (.str [121]), .nils])] (.some 2))])] .none)])] .none)]), (.int .i64 1)], (.fsl 3 1 0 [(.int .i64 1), (.int .i64 9)] .none))]
theorem tNames9_ok : ckO Tryz.prog E3 1000000 200 14 tNames9 = true := by kernel_rfl
def tNames11 : List (List V × V) := [([(.agg [(.int .i64 26), (.str []), (.gsl 3 [(.agg [(.int .i64 1), (.str []), .nils]), (.agg [(.int .i64 36), (.str []), (.gsl 3 [(.agg [(.int .i64 37), (.str []), (.gsl 3 [(.agg [(.int .i64 4), (.str [120]), .nils]), (.agg [(.int .i64 35), (.str []), (.gsl 3 [(.agg [(.int .i64 4), (.str [122]), .nils])] (.some 1))])] .none)])] (.some 1))]), (.agg [(.int .i64 4), (.str [120]), .nils])] .none)]), (.int .i64 3)], (.fsl 3 1 0 [(.int .i64 3), (.int .i64 10)] .none))]
theorem tNames11_ok : ckO Tryz.prog E3 1000000 200 14 tNames11 = true := by kernel_rfl
def tNames13 : List (List V × V) := [([(.agg [(.int .i64 29), (.str [102]), (.gsl 3 [(.agg [(.int .i64 30), (.str [36, 120]), .nils]), (.agg [(.int .i64 10), (.str []), (.gsl 3 [(.agg [(.int .i64 11), (.str []), (.gsl 3 [(.agg [(.int .i64 4), (.str [120]), .nils])] (.some 1))])] (.some 1))]), (.agg [(.int .i64 13), (.str [102]), (.gsl 3 [(.agg [(.int .i64 5), (.str [49]), .nils])] (.some 1))])] .none)]), (.int .i64 3)], (.fsl 3 1 0 [(.int .i64 3), (.int .i64 7)] .none))]
theorem tNames13_ok : ckO Tryz.prog E3 1000000 200 14 tNames13 = true := by kernel_rfl
def tNames15 : List (List V × V) := [([(.agg [(.int .i64 26), (.str []), (.gsl 3 [(.agg [(.int .i64 1), (.str []), .nils]), (.agg [(.int .i64 4), (.str [120]), .nils]), (.agg [(.int .i64 4), (.str [120]), .nils])] .none)]), (.int .i64 2)], (.fsl 3 1 0 [(.int .i64 2), (.int .i64 4)] .none))]
theorem tNames15_ok : ckO Tryz.prog E3 1000000 200 14 tNames15 = true := by kernel_rfl
def tNames17 : List (List V × V) := [([(.agg [(.int .i64 26), (.str []), (.gsl 3 [(.agg [(.int .i64 1), (.str []), .nils]), (.agg [(.int .i64 4), (.str [120]), .nils]), (.agg [(.int .i64 26), (.str []), (.gsl 3 [(.agg [(.int .i64 5), (.str [49]), .nils]), (.agg [(.int .i64 4), (.str [121]), .nils]), (.agg [(.int .i64 4), (.str [120]), .nils])] .none)])] .none)]), (.int .i64 2)], (.fsl 3 1 0 [(.int .i64 2), (.int .i64 8)] .none))]
theorem tNames17_ok : ckO Tryz.prog E3 1000000 200 14 tNames17 = true := by kernel_rfl

end Go.AM
