/-
  THE MACHINE's SURROUNDINGS, FURTHER: calls of whatever data whose results are known. No condition.
-/
import Derived.Test.YtlkbeldimoinjaaGreatDoorAmTNames0
import Derived.Test.YtlkbeldimoinjaaGreatDoorAmTNames1
namespace Go.AM
open Go.Proofs
set_option maxRecDepth 100000

def tNames : List (List V × V) := tNames0 ++ (tNames1 ++ (tNames2 ++ (tNames3 ++ (tNames4 ++ (tNames5 ++ (tNames6 ++ (tNames7 ++ (tNames8 ++ (tNames9 ++ (tNames10 ++ (tNames11 ++ (tNames12 ++ (tNames13 ++ (tNames14 ++ (tNames15 ++ (tNames16 ++ (tNames17)))))))))))))))))
theorem tNames_pure : ∀ q, q ∈ tNames → PureOk Tryz.prog E0.glob 14 q.1 q.2 := each_app (ckO_pure ⟨prim3, names⟩ tNames0_ok) (each_app (ckO_pure ⟨prim3, names⟩ tNames1_ok) (each_app (ckO_pure ⟨prim3, names⟩ tNames2_ok) (each_app (ckO_pure ⟨prim3, names⟩ tNames3_ok) (each_app (ckO_pure ⟨prim3, names⟩ tNames4_ok) (each_app (ckO_pure ⟨prim3, names⟩ tNames5_ok) (each_app (ckO_pure ⟨prim3, names⟩ tNames6_ok) (each_app (ckO_pure ⟨prim3, names⟩ tNames7_ok) (each_app (ckO_pure ⟨prim3, names⟩ tNames8_ok) (each_app (ckO_pure ⟨prim3, names⟩ tNames9_ok) (each_app (ckO_pure ⟨prim3, names⟩ tNames10_ok) (each_app (ckO_pure ⟨prim3, names⟩ tNames11_ok) (each_app (ckO_pure ⟨prim3, names⟩ tNames12_ok) (each_app (ckO_pure ⟨prim3, names⟩ tNames13_ok) (each_app (ckO_pure ⟨prim3, names⟩ tNames14_ok) (each_app (ckO_pure ⟨prim3, names⟩ tNames15_ok) (each_app (ckO_pure ⟨prim3, names⟩ tNames16_ok) (ckO_pure ⟨prim3, names⟩ tNames17_ok)))))))))))))))))
def memoG0 : List (FuncId × List (List V × V)) := [(14, tNames)]
theorem memoG0_ok {G : Nat → Option V} (hG : G = E0.glob) : ∀ p, p ∈ memoG0 → ∀ q, q ∈ p.2 → PureOk Tryz.prog G p.1 q.1 q.2 := by
  subst hG
  intro p hp
  simp only [memoG0, List.mem_cons, List.not_mem_nil, or_false] at hp
  subst hp
  exact tNames_pure
noncomputable def E4 : Env := { E0 with prim := memoX memoG0 (memoP memo3 []) }
theorem prim4 : PrimOk Tryz.prog E4 := memoX_ok (TG := memoG0) (pr := memoP memo3 []) rfl (fun f gs v h => prim3 f gs v h) (memoG0_ok rfl)
theorem snd4 : Snd Tryz.prog E4 (run Tryz.prog E4 1000000) := run_snd names prim4 _

end Go.AM
