/-
  THE MACHINE's SURROUNDINGS, FURTHER: calls whose results are known. No condition.
-/
import Derived.Test.YtlkbeldimoinjaaGreatDoorAmTRef0
import Derived.Test.YtlkbeldimoinjaaGreatDoorAmTRef1
import Derived.Test.YtlkbeldimoinjaaGreatDoorAmTRef2
namespace Go.AM
open Go.Proofs
set_option maxRecDepth 100000

def tRef : List (List UInt8 × V) := tRef0 ++ (tRef1 ++ (tRef2 ++ (tRef3 ++ (tRef4 ++ (tRef5 ++ (tRef6 ++ (tRef7 ++ (tRef8 ++ (tRef9 ++ (tRef10 ++ (tRef11 ++ (tRef12 ++ (tRef13)))))))))))))
def memo3 : List (FuncId × List (List UInt8 × V)) := [(206, tFields), (295, tLevel), (296, tRight), (297, tSide), (13, tParse), (5, tRef)]
noncomputable def E3 : Env := { E0 with prim := memoP memo3 [] }
theorem prim3 : PrimOk Tryz.prog E3 := memoP_ok (TT := memo3) (T0 := []) rfl (fun p hp => by
  simp only [memo3, List.mem_cons, List.not_mem_nil, or_false] at hp
  rcases hp with rfl | rfl | rfl | rfl | rfl | rfl
  · exact ckT_pure snd0 tFields_ok
  · exact ckT_pure snd1 tLevel_ok
  · exact ckT_pure snd1 tRight_ok
  · exact ckT_pure snd1 tSide_ok
  · exact each_app (ckT_pure snd2 tParse0_ok) (each_app (ckT_pure snd2 tParse1_ok) (each_app (ckT_pure snd2 tParse2_ok) (each_app (ckT_pure snd2 tParse3_ok) (each_app (ckT_pure snd2 tParse4_ok) (each_app (ckT_pure snd2 tParse5_ok) (each_app (ckT_pure snd2 tParse6_ok) (each_app (ckT_pure snd2 tParse7_ok) (each_app (ckT_pure snd2 tParse8_ok) (each_app (ckT_pure snd2 tParse9_ok) (each_app (ckT_pure snd2 tParse10_ok) (each_app (ckT_pure snd2 tParse11_ok) (each_app (ckT_pure snd2 tParse12_ok) (each_app (ckT_pure snd2 tParse13_ok) (each_app (ckT_pure snd2 tParse14_ok) (each_app (ckT_pure snd2 tParse15_ok) (each_app (ckT_pure snd2 tParse16_ok) (each_app (ckT_pure snd2 tParse17_ok) (each_app (ckT_pure snd2 tParse18_ok) (each_app (ckT_pure snd2 tParse19_ok) (each_app (ckT_pure snd2 tParse20_ok) (each_app (ckT_pure snd2 tParse21_ok) (each_app (ckT_pure snd2 tParse22_ok) (each_app (ckT_pure snd2 tParse23_ok) (each_app (ckT_pure snd2 tParse24_ok) (each_app (ckT_pure snd2 tParse25_ok) (each_app (ckT_pure snd2 tParse26_ok) (ckT_pure snd2 tParse27_ok)))))))))))))))))))))))))))
  · exact each_app (ckT_pure snd2 tRef0_ok) (each_app (ckT_pure snd2 tRef1_ok) (each_app (ckT_pure snd2 tRef2_ok) (each_app (ckT_pure snd2 tRef3_ok) (each_app (ckT_pure snd2 tRef4_ok) (each_app (ckT_pure snd2 tRef5_ok) (each_app (ckT_pure snd2 tRef6_ok) (each_app (ckT_pure snd2 tRef7_ok) (each_app (ckT_pure snd2 tRef8_ok) (each_app (ckT_pure snd2 tRef9_ok) (each_app (ckT_pure snd2 tRef10_ok) (each_app (ckT_pure snd2 tRef11_ok) (each_app (ckT_pure snd2 tRef12_ok) (ckT_pure snd2 tRef13_ok)))))))))))))
  ) (fun q hq => by cases hq)
theorem snd3 : Snd Tryz.prog E3 (run Tryz.prog E3 1000000) := run_snd names prim3 _

/-- The table, where it is laid. -/
theorem globOk {S : Nat → Nat → Option Value} (h : ∀ i, i < 256 → S 0 i = some (.int .u8 (asciiZ.getD i 0))) : GlobOk globV S := by
  intro gl x hx
  unfold globV at hx
  obtain ⟨hb, hx⟩ := bif_some hx rfl
  rw [Nat.beq_eq] at hb; subst hb
  cases hx
  rw [asciiV_eq]
  exact tab_gr (by kernel_rfl) (by decide) h

end Go.AM
