/-
  THE LAW's OWN EXAMPLES, RUN ONCE: what stands at its head gives true. No condition.
-/
import Derived.Test.YtpjpgabdemdieaaGreatDoorAmEnv
namespace Go.AM
open Go.Proofs
set_option maxRecDepth 100000

def known0 : List (FuncId × V) := [(4, .bool true)]
theorem known0_ok : ck0 Tryz.prog E2 1000000 known0 = true := by kernel_rfl
noncomputable def E3 : Env := { E0 with prim := memoP memo2 known0 }
theorem prim3 : PrimOk Tryz.prog E3 := memoP_ok (TT := memo2) (T0 := known0) rfl (fun p hp => by
  simp only [memo2, List.mem_cons, List.not_mem_nil, or_false] at hp
  rcases hp with rfl | rfl | rfl | rfl
  · exact ckT_pure snd0 tFields_ok
  · exact ckT_pure snd1 tLevel_ok
  · exact ckT_pure snd1 tRight_ok
  · exact ckT_pure snd1 tSide_ok
  ) (ck0_pure snd2 known0_ok)
theorem snd3 : Snd Tryz.prog E3 (run Tryz.prog E3 1000000) := run_snd names prim3 _

end Go.AM
