/-
  CALLS OF WHATEVER DATA, RUN ONCE, in whichever order maps give their entries: a part of a table. No condition.
-/
import Derived.Test.YtlkbeldimoinjaaGreatDoorAmEnvBB
namespace Go.AM
open Go.Proofs
set_option maxRecDepth 100000

def tNames0 : List (List V × V) := [([(.agg [(.int .i64 26), (.str []), (.gsl 3 [(.agg [(.int .i64 1), (.str []), .nils]), (.agg [(.int .i64 4), (.str [120]), .nils]), (.agg [(.int .i64 26), (.str []), (.gsl 3 [(.agg [(.int .i64 1), (.str []), .nils]), (.agg [(.int .i64 4), (.str [121]), .nils]), (.agg [(.int .i64 4), (.str [120]), .nils])] .none)])] .none)]), (.int .i64 2)], (.fsl 3 1 0 [(.int .i64 2), (.int .i64 8)] .none))]
theorem tNames0_ok : ckO Tryz.prog E3 1000000 200 14 tNames0 = true := by kernel_rfl
def tNames2 : List (List V × V) := [([(.agg [(.int .i64 29), (.str [120]), (.gsl 3 [(.agg [(.int .i64 5), (.str [49]), .nils]), (.agg [(.int .i64 29), (.str [121]), (.gsl 3 [(.agg [(.int .i64 5), (.str [50]), .nils]), (.agg [(.int .i64 13), (.str [120]), .nils])] .none)])] .none)]), (.int .i64 1)], (.fsl 3 1 0 [(.int .i64 1), (.int .i64 10)] .none))]
theorem tNames2_ok : ckO Tryz.prog E3 1000000 200 14 tNames2 = true := by kernel_rfl
def tNames4 : List (List V × V) := [([(.agg [(.int .i64 27), (.str [120]), (.gsl 3 [(.agg [(.int .i64 27), (.str [121]), (.gsl 3 [(.agg [(.int .i64 28), (.str [120]), .nils])] (.some 1))])] (.some 1))]), (.int .i64 1)], (.fsl 3 1 0 [(.int .i64 1), (.int .i64 7)] .none))]
theorem tNames4_ok : ckO Tryz.prog E3 1000000 200 14 tNames4 = true := by kernel_rfl
def tNames6 : List (List V × V) := [([(.agg [(.int .i64 26), (.str []), (.gsl 3 [(.agg [(.int .i64 1), (.str []), .nils]), (.agg [(.int .i64 4), (.str [120]), .nils]), (.agg [(.int .i64 24), (.str [44]), (.gsl 3 [(.agg [(.int .i64 9), (.str []), (.gsl 3 [(.agg [(.int .i64 26), (.str []), (.gsl 3 [(.agg [(.int .i64 1), (.str []), .nils]), (.agg [(.int .i64 4), (.str [121]), .nils]), (.agg [(.int .i64 4), (.str [121]), .nils])] .none)])] (.some 1))]), (.agg [(.int .i64 4), (.str [120]), .nils])] (.some 2))])] .none)]), (.int .i64 2)], (.fsl 3 1 0 [(.int .i64 2), (.int .i64 12)] .none))]
theorem tNames6_ok : ckO Tryz.prog E3 1000000 200 14 tNames6 = true := by kernel_rfl
def tNames8 : List (List V × V) := [([(.agg [(.int .i64 26), (.str []), (.gsl 3 [(.agg [(.int .i64 1), (.str []), .nils]), (.agg [(.int .i64 4), (.str [120]), .nils]), (.agg [(.int .i64 24), (.str [124]), (.gsl 3 [(.agg [(.int .i64 13), (.str [121]), .nils]), (.agg [(.int .i64 4), (.str [120]), .nils])] (.some 2))])] .none)]), (.int .i64 2)], (.fsl 3 1 0 [(.int .i64 2), (.int .i64 6)] .none))]
theorem tNames8_ok : ckO Tryz.prog E3 1000000 200 14 tNames8 = true := by kernel_rfl
def tNames10 : List (List V × V) := [([(.agg [(.int .i64 26), (.str []), (.gsl 3 [(.agg [(.int .i64 1), (.str []), .nils]), (.agg [(.int .i64 36), (.str []), (.gsl 3 [(.agg [(.int .i64 37), (.str []), (.gsl 3 [(.agg [(.int .i64 4), (.str [120]), .nils])] (.some 1))])] (.some 1))]), (.agg [(.int .i64 4), (.str [120]), .nils])] .none)]), (.int .i64 3)], (.fsl 3 1 0 [(.int .i64 3), (.int .i64 6)] .none))]
theorem tNames10_ok : ckO Tryz.prog E3 1000000 200 14 tNames10 = true := by kernel_rfl
def tNames12 : List (List V × V) := [([(.agg [(.int .i64 26), (.str []), (.gsl 3 [(.agg [(.int .i64 1), (.str []), .nils]), (.agg [(.int .i64 4), (.str [120]), .nils]), (.agg [(.int .i64 10), (.str []), (.gsl 3 [(.agg [(.int .i64 11), (.str []), (.gsl 3 [(.agg [(.int .i64 4), (.str [120]), .nils])] (.some 1))])] (.some 1))])] .none)]), (.int .i64 2)], (.fsl 3 1 0 [(.int .i64 2), (.int .i64 5)] .none))]
theorem tNames12_ok : ckO Tryz.prog E3 1000000 200 14 tNames12 = true := by kernel_rfl
def tNames14 : List (List V × V) := [([(.agg [(.int .i64 26), (.str []), (.gsl 3 [(.agg [(.int .i64 1), (.str []), .nils]), (.agg [(.int .i64 36), (.str []), (.gsl 3 [(.agg [(.int .i64 37), (.str []), (.gsl 3 [(.agg [(.int .i64 31), (.str [97]), .nils]), (.agg [(.int .i64 4), (.str [120]), .nils])] .none)])] (.some 1))]), (.agg [(.int .i64 24), (.str [44]), (.gsl 3 [(.agg [(.int .i64 10), (.str []), (.gsl 3 [(.agg [(.int .i64 11), (.str []), (.gsl 3 [(.agg [(.int .i64 31), (.str [97]), .nils]), (.agg [(.int .i64 4), (.str [120]), .nils])] .none)])] (.some 1))]), (.agg [(.int .i64 10), (.str []), (.gsl 3 [(.agg [(.int .i64 11), (.str []), (.gsl 3 [(.agg [(.int .i64 4), (.str [120]), .nils]), (.agg [(.int .i64 5), (.str [49]), .nils])] .none)])] (.some 1))])] (.some 2))])] .none)]), (.int .i64 5)], (.fsl 3 1 0 [(.int .i64 5), (.int .i64 11), (.int .i64 15)] .none))]
theorem tNames14_ok : ckO Tryz.prog E3 1000000 200 14 tNames14 = true := by kernel_rfl
def tNames16 : List (List V × V) := [([(.agg [(.int .i64 26), (.str []), (.gsl 3 [(.agg [(.int .i64 1), (.str []), .nils]), (.agg [(.int .i64 4), (.str [120]), .nils]), (.agg [(.int .i64 4), (.str [120]), .nils])] .none)]), (.int .i64 0)], .nils)]
theorem tNames16_ok : ckO Tryz.prog E3 1000000 200 14 tNames16 = true := by kernel_rfl

end Go.AM
