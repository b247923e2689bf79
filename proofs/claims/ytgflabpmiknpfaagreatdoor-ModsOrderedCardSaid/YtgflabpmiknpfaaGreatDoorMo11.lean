/-
  WHAT FUNCTIONS OF THE PROGRAM COME TO, told by the machine, and plain laws of it. No condition but what each theorem says of its arguments.
-/
import Derived.Test.YtgflabpmiknpfaaGreatDoorMo6
namespace Go.AM
open Go.Proofs
set_option maxRecDepth 100000
set_option maxHeartbeats 4000000
theorem chk_7 (n:Nat):rn PP EP CP (n+100) (.call 6 [.sl 0 6 0 7 none] (hp [rwF 6 (qa0 7)]))=.ret (.osl 3 []) (hp [rwF 6 (qa0 7)]):=by kernel_rfl
theorem chk_14 (n:Nat):rn PP EP CP (n+100) (.call 6 [.sl 0 13 0 14 none] (hp [rwF 13 (qa0 14)]))=.ret (.osl 3 []) (hp [rwF 13 (qa0 14)]):=by kernel_rfl
theorem chk_23 (n:Nat):rn PP EP CP (n+100) (.call 6 [.sl 0 22 0 23 none] (hp [rwF 22 (qa0 23)]))=.ret (.osl 3 []) (hp [rwF 22 (qa0 23)]):=by kernel_rfl
theorem chk_30 (n:Nat):rn PP EP CP (n+100) (.call 6 [.sl 0 29 0 30 none] (hp [rwF 29 (qa0 30)]))=.ret (.osl 3 []) (hp [rwF 29 (qa0 30)]):=by kernel_rfl
theorem chk_39 (n:Nat):rn PP EP CP (n+100) (.call 6 [.sl 0 38 0 39 none] (hp [rwF 38 (qa0 39)]))=.ret (.osl 3 []) (hp [rwF 38 (qa0 39)]):=by kernel_rfl
theorem chk_46 (n:Nat):rn PP EP CP (n+100) (.call 6 [.sl 0 45 0 46 none] (hp [rwF 45 (qa0 46)]))=.ret (.osl 3 []) (hp [rwF 45 (qa0 46)]):=by kernel_rfl
end Go.AM
