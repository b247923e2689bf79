/-
  THE MACHINE's SURROUNDINGS, FURTHER: calls whose results are known. No condition.
-/
import Derived.Test.YtaahfplokcfncaaGreatDoorAmTLex0
import Derived.Test.YtaahfplokcfncaaGreatDoorAmTLex1
namespace Go.AM
open Go.Proofs
set_option maxRecDepth 100000

def tLex : List (List UInt8 × V) := tLex0 ++ (tLex1 ++ (tLex2 ++ (tLex3 ++ (tLex4 ++ (tLex5 ++ (tLex6 ++ (tLex7 ++ (tLex8 ++ (tLex9 ++ (tLex10 ++ (tLex11 ++ (tLex12 ++ (tLex13 ++ (tLex14 ++ (tLex15 ++ (tLex16 ++ (tLex17 ++ (tLex18 ++ (tLex19 ++ (tLex20 ++ (tLex21 ++ (tLex22 ++ (tLex23 ++ (tLex24 ++ (tLex25 ++ (tLex26 ++ (tLex27 ++ (tLex28 ++ (tLex29 ++ (tLex30 ++ (tLex31 ++ (tLex32))))))))))))))))))))))))))))))))
def memo3 : List (FuncId × List (List UInt8 × V)) := [(293, tFields), (218, tLevel), (219, tRight), (220, tSide), (9, tParse), (11, tLex)]
noncomputable def E3 : Env := { E0 with prim := memoP memo3 [] }
theorem prim3 : PrimOk Tryz.prog E3 := memoP_ok (TT := memo3) (T0 := []) rfl (fun p hp => by
  simp only [memo3, List.mem_cons, List.not_mem_nil, or_false] at hp
  rcases hp with rfl | rfl | rfl | rfl | rfl | rfl
  · exact ckT_pure snd0 tFields_ok
  · exact ckT_pure snd1 tLevel_ok
  · exact ckT_pure snd1 tRight_ok
  · exact ckT_pure snd1 tSide_ok
  · exact each_app (ckT_pure snd2 tParse0_ok) (each_app (ckT_pure snd2 tParse1_ok) (each_app (ckT_pure snd2 tParse2_ok) (each_app (ckT_pure snd2 tParse3_ok) (each_app (ckT_pure snd2 tParse4_ok) (each_app (ckT_pure snd2 tParse5_ok) (each_app (ckT_pure snd2 tParse6_ok) (each_app (ckT_pure snd2 tParse7_ok) (each_app (ckT_pure snd2 tParse8_ok) (each_app (ckT_pure snd2 tParse9_ok) (each_app (ckT_pure snd2 tParse10_ok) (each_app (ckT_pure snd2 tParse11_ok) (each_app (ckT_pure snd2 tParse12_ok) (each_app (ckT_pure snd2 tParse13_ok) (each_app (ckT_pure snd2 tParse14_ok) (each_app (ckT_pure snd2 tParse15_ok) (each_app (ckT_pure snd2 tParse16_ok) (each_app (ckT_pure snd2 tParse17_ok) (each_app (ckT_pure snd2 tParse18_ok) (each_app (ckT_pure snd2 tParse19_ok) (each_app (ckT_pure snd2 tParse20_ok) (each_app (ckT_pure snd2 tParse21_ok) (each_app (ckT_pure snd2 tParse22_ok) (each_app (ckT_pure snd2 tParse23_ok) (each_app (ckT_pure snd2 tParse24_ok) (each_app (ckT_pure snd2 tParse25_ok) (each_app (ckT_pure snd2 tParse26_ok) (each_app (ckT_pure snd2 tParse27_ok) (each_app (ckT_pure snd2 tParse28_ok) (each_app (ckT_pure snd2 tParse29_ok) (each_app (ckT_pure snd2 tParse30_ok) (each_app (ckT_pure snd2 tParse31_ok) (ckT_pure snd2 tParse32_ok))))))))))))))))))))))))))))))))
  · exact each_app (ckT_pure snd2 tLex0_ok) (each_app (ckT_pure snd2 tLex1_ok) (each_app (ckT_pure snd2 tLex2_ok) (each_app (ckT_pure snd2 tLex3_ok) (each_app (ckT_pure snd2 tLex4_ok) (each_app (ckT_pure snd2 tLex5_ok) (each_app (ckT_pure snd2 tLex6_ok) (each_app (ckT_pure snd2 tLex7_ok) (each_app (ckT_pure snd2 tLex8_ok) (each_app (ckT_pure snd2 tLex9_ok) (each_app (ckT_pure snd2 tLex10_ok) (each_app (ckT_pure snd2 tLex11_ok) (each_app (ckT_pure snd2 tLex12_ok) (each_app (ckT_pure snd2 tLex13_ok) (each_app (ckT_pure snd2 tLex14_ok) (each_app (ckT_pure snd2 tLex15_ok) (each_app (ckT_pure snd2 tLex16_ok) (each_app (ckT_pure snd2 tLex17_ok) (each_app (ckT_pure snd2 tLex18_ok) (each_app (ckT_pure snd2 tLex19_ok) (each_app (ckT_pure snd2 tLex20_ok) (each_app (ckT_pure snd2 tLex21_ok) (each_app (ckT_pure snd2 tLex22_ok) (each_app (ckT_pure snd2 tLex23_ok) (each_app (ckT_pure snd2 tLex24_ok) (each_app (ckT_pure snd2 tLex25_ok) (each_app (ckT_pure snd2 tLex26_ok) (each_app (ckT_pure snd2 tLex27_ok) (each_app (ckT_pure snd2 tLex28_ok) (each_app (ckT_pure snd2 tLex29_ok) (each_app (ckT_pure snd2 tLex30_ok) (each_app (ckT_pure snd2 tLex31_ok) (ckT_pure snd2 tLex32_ok))))))))))))))))))))))))))))))))
  ) (fun q hq => by cases hq)
theorem snd3 : Snd Tryz.prog E3 (run Tryz.prog E3 1000000) := run_snd names prim3 _

end Go.AM
