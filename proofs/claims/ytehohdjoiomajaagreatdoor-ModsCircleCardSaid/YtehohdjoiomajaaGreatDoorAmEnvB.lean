/-
  THE MACHINE's SURROUNDINGS, FURTHER: calls whose results are known. No condition.
-/
import Derived.Test.YtehohdjoiomajaaGreatDoorAmTParse0
import Derived.Test.YtehohdjoiomajaaGreatDoorAmTParse1
import Derived.Test.YtehohdjoiomajaaGreatDoorAmTParse2
import Derived.Test.YtehohdjoiomajaaGreatDoorAmTParse3
namespace Go.AM
open Go.Proofs
set_option maxRecDepth 100000

def tParse : List (List UInt8 × V) := tParse0 ++ (tParse1 ++ (tParse2 ++ (tParse3 ++ (tParse4 ++ (tParse5 ++ (tParse6 ++ (tParse7 ++ (tParse8 ++ (tParse9 ++ (tParse10 ++ (tParse11 ++ (tParse12 ++ (tParse13 ++ (tParse14 ++ (tParse15 ++ (tParse16 ++ (tParse17 ++ (tParse18 ++ (tParse19 ++ (tParse20 ++ (tParse21 ++ (tParse22 ++ (tParse23 ++ (tParse24 ++ (tParse25 ++ (tParse26 ++ (tParse27 ++ (tParse28 ++ (tParse29 ++ (tParse30 ++ (tParse31 ++ (tParse32))))))))))))))))))))))))))))))))
def memo3 : List (FuncId × List (List UInt8 × V)) := [(358, tFields), (226, tLevel), (291, tRight), (322, tSide), (42, tParse)]
noncomputable def E3 : Env := { E0 with prim := memoP memo3 [] }
theorem prim3 : PrimOk Tryz.prog E3 := memoP_ok (TT := memo3) (T0 := []) rfl (fun p hp => by
  simp only [memo3, List.mem_cons, List.not_mem_nil, or_false] at hp
  rcases hp with rfl | rfl | rfl | rfl | rfl
  · exact ckT_pure snd0 tFields_ok
  · exact ckT_pure snd1 tLevel_ok
  · exact ckT_pure snd1 tRight_ok
  · exact ckT_pure snd1 tSide_ok
  · exact each_app (ckT_pure snd2 tParse0_ok) (each_app (ckT_pure snd2 tParse1_ok) (each_app (ckT_pure snd2 tParse2_ok) (each_app (ckT_pure snd2 tParse3_ok) (each_app (ckT_pure snd2 tParse4_ok) (each_app (ckT_pure snd2 tParse5_ok) (each_app (ckT_pure snd2 tParse6_ok) (each_app (ckT_pure snd2 tParse7_ok) (each_app (ckT_pure snd2 tParse8_ok) (each_app (ckT_pure snd2 tParse9_ok) (each_app (ckT_pure snd2 tParse10_ok) (each_app (ckT_pure snd2 tParse11_ok) (each_app (ckT_pure snd2 tParse12_ok) (each_app (ckT_pure snd2 tParse13_ok) (each_app (ckT_pure snd2 tParse14_ok) (each_app (ckT_pure snd2 tParse15_ok) (each_app (ckT_pure snd2 tParse16_ok) (each_app (ckT_pure snd2 tParse17_ok) (each_app (ckT_pure snd2 tParse18_ok) (each_app (ckT_pure snd2 tParse19_ok) (each_app (ckT_pure snd2 tParse20_ok) (each_app (ckT_pure snd2 tParse21_ok) (each_app (ckT_pure snd2 tParse22_ok) (each_app (ckT_pure snd2 tParse23_ok) (each_app (ckT_pure snd2 tParse24_ok) (each_app (ckT_pure snd2 tParse25_ok) (each_app (ckT_pure snd2 tParse26_ok) (each_app (ckT_pure snd2 tParse27_ok) (each_app (ckT_pure snd2 tParse28_ok) (each_app (ckT_pure snd2 tParse29_ok) (each_app (ckT_pure snd2 tParse30_ok) (each_app (ckT_pure snd2 tParse31_ok) (ckT_pure snd2 tParse32_ok))))))))))))))))))))))))))))))))
  ) (fun q hq => by cases hq)
theorem snd3 : Snd Tryz.prog E3 (run Tryz.prog E3 1000000) := run_snd names prim3 _

/-- The table, where it is laid. -/
theorem globOk {S : Nat → Nat → Option Value} (h : ∀ i, i < 256 → S 3 i = some (.int .u8 (asciiZ.getD i 0))) : GlobOk globV S := by
  intro gl x hx
  unfold globV at hx
  obtain ⟨hb, hx⟩ := bif_some hx rfl
  rw [Nat.beq_eq] at hb; subst hb
  cases hx
  rw [asciiV_eq]
  exact tab_gr (by kernel_rfl) (by decide) h

end Go.AM
