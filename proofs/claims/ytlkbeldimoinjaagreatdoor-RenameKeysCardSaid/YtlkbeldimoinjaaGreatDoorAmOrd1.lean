/-
  THE MACHINE's SURROUNDINGS, FURTHER: calls of whatever data whose results are known. No condition.
-/
import Derived.Test.YtlkbeldimoinjaaGreatDoorAmTRename0
import Derived.Test.YtlkbeldimoinjaaGreatDoorAmTRename1
import Derived.Test.YtlkbeldimoinjaaGreatDoorAmTRename2
import Derived.Test.YtlkbeldimoinjaaGreatDoorAmTNamed0
import Derived.Test.YtlkbeldimoinjaaGreatDoorAmTNamed1
import Derived.Test.YtlkbeldimoinjaaGreatDoorAmTNamed2
namespace Go.AM
open Go.Proofs
set_option maxRecDepth 100000

def tRename : List (List V × V) := tRename0 ++ (tRename1 ++ (tRename2 ++ (tRename3 ++ (tRename4 ++ (tRename5 ++ (tRename6 ++ (tRename7 ++ (tRename8 ++ (tRename9 ++ (tRename10 ++ (tRename11 ++ (tRename12 ++ (tRename13 ++ (tRename14 ++ (tRename15 ++ (tRename16 ++ (tRename17)))))))))))))))))
theorem tRename_pure : ∀ q, q ∈ tRename → PureOk Tryz.prog E0.glob 6 q.1 q.2 := each_app (ckO_pure ⟨prim4, names⟩ tRename0_ok) (each_app (ckO_pure ⟨prim4, names⟩ tRename1_ok) (each_app (ckO_pure ⟨prim4, names⟩ tRename2_ok) (each_app (ckO_pure ⟨prim4, names⟩ tRename3_ok) (each_app (ckO_pure ⟨prim4, names⟩ tRename4_ok) (each_app (ckO_pure ⟨prim4, names⟩ tRename5_ok) (each_app (ckO_pure ⟨prim4, names⟩ tRename6_ok) (each_app (ckO_pure ⟨prim4, names⟩ tRename7_ok) (each_app (ckO_pure ⟨prim4, names⟩ tRename8_ok) (each_app (ckO_pure ⟨prim4, names⟩ tRename9_ok) (each_app (ckO_pure ⟨prim4, names⟩ tRename10_ok) (each_app (ckO_pure ⟨prim4, names⟩ tRename11_ok) (each_app (ckO_pure ⟨prim4, names⟩ tRename12_ok) (each_app (ckO_pure ⟨prim4, names⟩ tRename13_ok) (each_app (ckO_pure ⟨prim4, names⟩ tRename14_ok) (each_app (ckO_pure ⟨prim4, names⟩ tRename15_ok) (each_app (ckO_pure ⟨prim4, names⟩ tRename16_ok) (ckO_pure ⟨prim4, names⟩ tRename17_ok)))))))))))))))))
def tNamed : List (List V × V) := tNamed0 ++ (tNamed1 ++ (tNamed2 ++ (tNamed3 ++ (tNamed4 ++ (tNamed5 ++ (tNamed6 ++ (tNamed7 ++ (tNamed8 ++ (tNamed9 ++ (tNamed10 ++ (tNamed11 ++ (tNamed12 ++ (tNamed13)))))))))))))
theorem tNamed_pure : ∀ q, q ∈ tNamed → PureOk Tryz.prog E0.glob 7 q.1 q.2 := each_app (ckO_pure ⟨prim4, names⟩ tNamed0_ok) (each_app (ckO_pure ⟨prim4, names⟩ tNamed1_ok) (each_app (ckO_pure ⟨prim4, names⟩ tNamed2_ok) (each_app (ckO_pure ⟨prim4, names⟩ tNamed3_ok) (each_app (ckO_pure ⟨prim4, names⟩ tNamed4_ok) (each_app (ckO_pure ⟨prim4, names⟩ tNamed5_ok) (each_app (ckO_pure ⟨prim4, names⟩ tNamed6_ok) (each_app (ckO_pure ⟨prim4, names⟩ tNamed7_ok) (each_app (ckO_pure ⟨prim4, names⟩ tNamed8_ok) (each_app (ckO_pure ⟨prim4, names⟩ tNamed9_ok) (each_app (ckO_pure ⟨prim4, names⟩ tNamed10_ok) (each_app (ckO_pure ⟨prim4, names⟩ tNamed11_ok) (each_app (ckO_pure ⟨prim4, names⟩ tNamed12_ok) (ckO_pure ⟨prim4, names⟩ tNamed13_ok)))))))))))))
def memoG1 : List (FuncId × List (List V × V)) := [(14, tNames), (6, tRename), (7, tNamed)]
theorem memoG1_ok {G : Nat → Option V} (hG : G = E0.glob) : ∀ p, p ∈ memoG1 → ∀ q, q ∈ p.2 → PureOk Tryz.prog G p.1 q.1 q.2 := by
  subst hG
  intro p hp
  simp only [memoG1, List.mem_cons, List.not_mem_nil, or_false] at hp
  rcases hp with rfl | rfl | rfl
  · exact tNames_pure
  · exact tRename_pure
  · exact tNamed_pure
noncomputable def E5 : Env := { E0 with prim := memoX memoG1 (memoP memo3 []) }
theorem prim5 : PrimOk Tryz.prog E5 := memoX_ok (TG := memoG1) (pr := memoP memo3 []) rfl (fun f gs v h => prim3 f gs v h) (memoG1_ok rfl)
theorem snd5 : Snd Tryz.prog E5 (run Tryz.prog E5 1000000) := run_snd names prim5 _

end Go.AM
