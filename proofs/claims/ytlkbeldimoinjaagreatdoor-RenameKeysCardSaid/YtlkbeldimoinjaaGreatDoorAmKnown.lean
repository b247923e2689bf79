/-
  THE LAW's OWN EXAMPLES, RUN ONCE: what stands at its head gives true. No condition.
-/
import Derived.Test.YtlkbeldimoinjaaGreatDoorAmOrd1
namespace Go.AM
open Go.Proofs
set_option maxRecDepth 100000

def known0 : List (FuncId × V) := [(8, .bool true)]
theorem known0_ok : ck0 Tryz.prog E5 1000000 known0 = true := by kernel_rfl
noncomputable def E6X : Env := { E0 with prim := memoP memo3 known0 }
theorem prim6X : PrimOk Tryz.prog E6X := memoP_ok (TT := memo3) (T0 := known0) rfl (fun p hp => by
  simp only [memo3, List.mem_cons, List.not_mem_nil, or_false] at hp
  rcases hp with rfl | rfl | rfl | rfl | rfl | rfl
  · exact ckT_pure snd0 tFields_ok
  · exact ckT_pure snd1 tLevel_ok
  · exact ckT_pure snd1 tRight_ok
  · exact ckT_pure snd1 tSide_ok
  · exact each_app (ckT_pure snd2 tParse0_ok) (each_app (ckT_pure snd2 tParse1_ok) (each_app (ckT_pure snd2 tParse2_ok) (each_app (ckT_pure snd2 tParse3_ok) (each_app (ckT_pure snd2 tParse4_ok) (each_app (ckT_pure snd2 tParse5_ok) (each_app (ckT_pure snd2 tParse6_ok) (each_app (ckT_pure snd2 tParse7_ok) (each_app (ckT_pure snd2 tParse8_ok) (each_app (ckT_pure snd2 tParse9_ok) (each_app (ckT_pure snd2 tParse10_ok) (each_app (ckT_pure snd2 tParse11_ok) (each_app (ckT_pure snd2 tParse12_ok) (each_app (ckT_pure snd2 tParse13_ok) (each_app (ckT_pure snd2 tParse14_ok) (each_app (ckT_pure snd2 tParse15_ok) (each_app (ckT_pure snd2 tParse16_ok) (each_app (ckT_pure snd2 tParse17_ok) (each_app (ckT_pure snd2 tParse18_ok) (each_app (ckT_pure snd2 tParse19_ok) (each_app (ckT_pure snd2 tParse20_ok) (each_app (ckT_pure snd2 tParse21_ok) (each_app (ckT_pure snd2 tParse22_ok) (each_app (ckT_pure snd2 tParse23_ok) (each_app (ckT_pure snd2 tParse24_ok) (each_app (ckT_pure snd2 tParse25_ok) (each_app (ckT_pure snd2 tParse26_ok) (ckT_pure snd2 tParse27_ok)))))))))))))))))))))))))))
  · exact each_app (ckT_pure snd2 tRef0_ok) (each_app (ckT_pure snd2 tRef1_ok) (each_app (ckT_pure snd2 tRef2_ok) (each_app (ckT_pure snd2 tRef3_ok) (each_app (ckT_pure snd2 tRef4_ok) (each_app (ckT_pure snd2 tRef5_ok) (each_app (ckT_pure snd2 tRef6_ok) (each_app (ckT_pure snd2 tRef7_ok) (each_app (ckT_pure snd2 tRef8_ok) (each_app (ckT_pure snd2 tRef9_ok) (each_app (ckT_pure snd2 tRef10_ok) (each_app (ckT_pure snd2 tRef11_ok) (each_app (ckT_pure snd2 tRef12_ok) (ckT_pure snd2 tRef13_ok)))))))))))))
  ) (ck0_pure snd5 known0_ok)
noncomputable def E6 : Env := { E0 with prim := memoX memoG1 (memoP memo3 known0) }
theorem prim6 : PrimOk Tryz.prog E6 := memoX_ok (TG := memoG1) (pr := memoP memo3 known0) rfl (fun f gs v h => prim6X f gs v h) (memoG1_ok rfl)
theorem snd6 : Snd Tryz.prog E6 (run Tryz.prog E6 1000000) := run_snd names prim6 _

end Go.AM
