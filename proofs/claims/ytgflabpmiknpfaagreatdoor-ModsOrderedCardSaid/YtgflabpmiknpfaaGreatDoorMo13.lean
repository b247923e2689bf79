/-
  WHAT FUNCTIONS OF THE PROGRAM COME TO, told by the machine, and plain laws of it. No condition but what each theorem says of its arguments.
-/
import Derived.Test.YtgflabpmiknpfaaGreatDoorMo6
namespace Go.AM
open Go.Proofs
set_option maxRecDepth 100000
set_option maxHeartbeats 4000000
theorem chk_9 (n:Nat):rn PP EP CP (n+100) (.call 6 [.sl 0 8 0 9 none] (hp [rwF 8 (qa0 9)]))=.ret (.osl 3 []) (hp [rwF 8 (qa0 9)]):=by kernel_rfl
theorem chk_12 (n:Nat):rn PP EP CP (n+100) (.call 6 [.sl 0 11 0 12 none] (hp [rwF 11 (qa0 12)]))=.ret (.osl 3 []) (hp [rwF 11 (qa0 12)]):=by kernel_rfl
theorem chk_25 (n:Nat):rn PP EP CP (n+100) (.call 6 [.sl 0 24 0 25 none] (hp [rwF 24 (qa0 25)]))=.ret (.osl 3 []) (hp [rwF 24 (qa0 25)]):=by kernel_rfl
theorem chk_28 (n:Nat):rn PP EP CP (n+100) (.call 6 [.sl 0 27 0 28 none] (hp [rwF 27 (qa0 28)]))=.ret (.osl 3 []) (hp [rwF 27 (qa0 28)]):=by kernel_rfl
theorem chk_41 (n:Nat):rn PP EP CP (n+100) (.call 6 [.sl 0 40 0 41 none] (hp [rwF 40 (qa0 41)]))=.ret (.osl 3 []) (hp [rwF 40 (qa0 41)]):=by kernel_rfl
theorem chk_44 (n:Nat):rn PP EP CP (n+100) (.call 6 [.sl 0 43 0 44 none] (hp [rwF 43 (qa0 44)]))=.ret (.osl 3 []) (hp [rwF 43 (qa0 44)]):=by kernel_rfl
end Go.AM
