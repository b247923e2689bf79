/-
  THE SURROUNDINGS OF THE WALKS: what stands at the law's head is run once. No condition.
-/
import Derived.Test.YtpjpgabdemdieaaGreatDoorAmKnown
import Derived.Test.YtpjpgabdemdieaaGreatDoorAmAll4
namespace Go.AM
open Go.Proofs
set_option maxRecDepth 100000

noncomputable def EU : Env := { E0 with prim := memoP [] known0, lit := fun _ => true, pubRet := fun _ => false }
theorem primU : PrimOk Tryz.prog EU := memoP_ok (TT := []) (T0 := known0) rfl (fun p hp => by cases hp) (ck0_pure snd2 known0_ok)

end Go.AM
