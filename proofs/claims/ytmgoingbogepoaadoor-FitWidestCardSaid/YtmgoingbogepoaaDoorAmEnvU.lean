/-
  THE MACHINE's SURROUNDINGS IN THIS SEAT: which functions share their caller's heap; what stands at the head of each law is run once. No condition.
-/
import Derived.Test.YtmgoingbogepoaaDoorAmSyRow
import Derived.Test.YtmgoingbogepoaaDoorProg
namespace Go.AM
open Go.Proofs
set_option maxRecDepth 100000

def sharedT : T Bool := (.n (.n (.n (.n (.n (.n .e true .e) true .e) false (.n .e true .e)) false (.n (.n (.n .e true .e) false .e) false (.n (.n .e true .e) false .e))) false (.n (.n (.n (.n .e true .e) false .e) false (.n .e true .e)) false (.n (.n .e true .e) false (.n (.n .e true .e) true .e)))) false (.n (.n (.n (.n (.n .e true .e) true (.n .e true .e)) false .e) false (.n (.n (.n .e true .e) false .e) false .e)) false (.n (.n .e false (.n (.n .e true .e) false .e)) false (.n .e true (.n .e true .e)))))
def pubRetT : T Bool := .e
def globV (_ : Nat) : Option V := none
noncomputable def E0 : Env := { shared := T.get false sharedT, pubRet := T.get false pubRetT, prim := fun _ _ => none, glob := globV }
def known0 : List (FuncId × V) := [(4, .bool true)]
noncomputable def EU : Env := { E0 with prim := memoP [] known0, lit := fun _ => true }
theorem names : NameOk Tryd.prog := nameOk_of (by kernel_rfl)
theorem snd0 : Snd Tryd.prog E0 (run Tryd.prog E0 1000000) := run_snd names (primNone_ok rfl) _
theorem known0_ok : ck0 Tryd.prog E0 1000000 known0 = true := by kernel_rfl
theorem primU : PrimOk Tryd.prog EU := memoP_ok (TT := []) (T0 := known0) rfl (fun p hp => by cases hp) (ck0_pure snd0 known0_ok)
theorem globU {W : World} : GlobOk EU.glob (allOf W) := fun g x h => by cases h

end Go.AM
