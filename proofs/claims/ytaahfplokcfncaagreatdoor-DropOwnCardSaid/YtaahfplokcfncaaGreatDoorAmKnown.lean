/-
  THE LAW's OWN EXAMPLES, RUN ONCE: what stands at its head gives true. No condition.
-/
import Derived.Test.YtaahfplokcfncaaGreatDoorAmEnvBBB
namespace Go.AM
open Go.Proofs
set_option maxRecDepth 100000

def known0 : List (FuncId × V) := [(8, .bool true)]
theorem known0_ok : ck0 Tryz.prog E4 1000000 known0 = true := by kernel_rfl
noncomputable def E5 : Env := { E0 with prim := memoP memo4 known0 }
theorem prim5 : PrimOk Tryz.prog E5 := memoP_ok (TT := memo4) (T0 := known0) rfl (fun p hp => by
  simp only [memo4, List.mem_cons, List.not_mem_nil, or_false] at hp
  rcases hp with rfl | rfl | rfl | rfl | rfl | rfl | rfl
  · exact ckT_pure snd0 tFields_ok
  · exact ckT_pure snd1 tLevel_ok
  · exact ckT_pure snd1 tRight_ok
  · exact ckT_pure snd1 tSide_ok
  · exact each_app (ckT_pure snd2 tParse0_ok) (each_app (ckT_pure snd2 tParse1_ok) (each_app (ckT_pure snd2 tParse2_ok) (each_app (ckT_pure snd2 tParse3_ok) (each_app (ckT_pure snd2 tParse4_ok) (each_app (ckT_pure snd2 tParse5_ok) (each_app (ckT_pure snd2 tParse6_ok) (each_app (ckT_pure snd2 tParse7_ok) (each_app (ckT_pure snd2 tParse8_ok) (each_app (ckT_pure snd2 tParse9_ok) (each_app (ckT_pure snd2 tParse10_ok) (each_app (ckT_pure snd2 tParse11_ok) (each_app (ckT_pure snd2 tParse12_ok) (each_app (ckT_pure snd2 tParse13_ok) (each_app (ckT_pure snd2 tParse14_ok) (each_app (ckT_pure snd2 tParse15_ok) (each_app (ckT_pure snd2 tParse16_ok) (each_app (ckT_pure snd2 tParse17_ok) (each_app (ckT_pure snd2 tParse18_ok) (each_app (ckT_pure snd2 tParse19_ok) (each_app (ckT_pure snd2 tParse20_ok) (each_app (ckT_pure snd2 tParse21_ok) (each_app (ckT_pure snd2 tParse22_ok) (each_app (ckT_pure snd2 tParse23_ok) (each_app (ckT_pure snd2 tParse24_ok) (each_app (ckT_pure snd2 tParse25_ok) (each_app (ckT_pure snd2 tParse26_ok) (each_app (ckT_pure snd2 tParse27_ok) (each_app (ckT_pure snd2 tParse28_ok) (each_app (ckT_pure snd2 tParse29_ok) (each_app (ckT_pure snd2 tParse30_ok) (each_app (ckT_pure snd2 tParse31_ok) (ckT_pure snd2 tParse32_ok))))))))))))))))))))))))))))))))
  · exact each_app (ckT_pure snd2 tLex0_ok) (each_app (ckT_pure snd2 tLex1_ok) (each_app (ckT_pure snd2 tLex2_ok) (each_app (ckT_pure snd2 tLex3_ok) (each_app (ckT_pure snd2 tLex4_ok) (each_app (ckT_pure snd2 tLex5_ok) (each_app (ckT_pure snd2 tLex6_ok) (each_app (ckT_pure snd2 tLex7_ok) (each_app (ckT_pure snd2 tLex8_ok) (each_app (ckT_pure snd2 tLex9_ok) (each_app (ckT_pure snd2 tLex10_ok) (each_app (ckT_pure snd2 tLex11_ok) (each_app (ckT_pure snd2 tLex12_ok) (each_app (ckT_pure snd2 tLex13_ok) (each_app (ckT_pure snd2 tLex14_ok) (each_app (ckT_pure snd2 tLex15_ok) (each_app (ckT_pure snd2 tLex16_ok) (each_app (ckT_pure snd2 tLex17_ok) (each_app (ckT_pure snd2 tLex18_ok) (each_app (ckT_pure snd2 tLex19_ok) (each_app (ckT_pure snd2 tLex20_ok) (each_app (ckT_pure snd2 tLex21_ok) (each_app (ckT_pure snd2 tLex22_ok) (each_app (ckT_pure snd2 tLex23_ok) (each_app (ckT_pure snd2 tLex24_ok) (each_app (ckT_pure snd2 tLex25_ok) (each_app (ckT_pure snd2 tLex26_ok) (each_app (ckT_pure snd2 tLex27_ok) (each_app (ckT_pure snd2 tLex28_ok) (each_app (ckT_pure snd2 tLex29_ok) (each_app (ckT_pure snd2 tLex30_ok) (each_app (ckT_pure snd2 tLex31_ok) (ckT_pure snd2 tLex32_ok))))))))))))))))))))))))))))))))
  · exact each_app (ckT_pure snd3 tDrop0_ok) (each_app (ckT_pure snd3 tDrop1_ok) (each_app (ckT_pure snd3 tDrop2_ok) (each_app (ckT_pure snd3 tDrop3_ok) (each_app (ckT_pure snd3 tDrop4_ok) (each_app (ckT_pure snd3 tDrop5_ok) (each_app (ckT_pure snd3 tDrop6_ok) (each_app (ckT_pure snd3 tDrop7_ok) (each_app (ckT_pure snd3 tDrop8_ok) (each_app (ckT_pure snd3 tDrop9_ok) (each_app (ckT_pure snd3 tDrop10_ok) (each_app (ckT_pure snd3 tDrop11_ok) (each_app (ckT_pure snd3 tDrop12_ok) (each_app (ckT_pure snd3 tDrop13_ok) (each_app (ckT_pure snd3 tDrop14_ok) (each_app (ckT_pure snd3 tDrop15_ok) (each_app (ckT_pure snd3 tDrop16_ok) (each_app (ckT_pure snd3 tDrop17_ok) (each_app (ckT_pure snd3 tDrop18_ok) (each_app (ckT_pure snd3 tDrop19_ok) (each_app (ckT_pure snd3 tDrop20_ok) (each_app (ckT_pure snd3 tDrop21_ok) (each_app (ckT_pure snd3 tDrop22_ok) (each_app (ckT_pure snd3 tDrop23_ok) (each_app (ckT_pure snd3 tDrop24_ok) (each_app (ckT_pure snd3 tDrop25_ok) (each_app (ckT_pure snd3 tDrop26_ok) (each_app (ckT_pure snd3 tDrop27_ok) (each_app (ckT_pure snd3 tDrop28_ok) (each_app (ckT_pure snd3 tDrop29_ok) (each_app (ckT_pure snd3 tDrop30_ok) (each_app (ckT_pure snd3 tDrop31_ok) (ckT_pure snd3 tDrop32_ok))))))))))))))))))))))))))))))))
  ) (ck0_pure snd4 known0_ok)
theorem snd5 : Snd Tryz.prog E5 (run Tryz.prog E5 1000000) := run_snd names prim5 _

end Go.AM
