/-
  WHAT FUNCTIONS OF THE PROGRAM COME TO, told by the machine, and plain laws of it. No condition but what each theorem says of its arguments.
-/
import Derived.Test.YtgflabpmiknpfaaGreatDoorMo6
namespace Go.AM
open Go.Proofs
set_option maxRecDepth 100000
set_option maxHeartbeats 4000000
theorem chk_8 (n:Nat):rn PP EP CP (n+100) (.call 6 [.sl 0 7 0 8 none] (hp [rwF 7 (qa0 8)]))=.ret (.osl 3 []) (hp [rwF 7 (qa0 8)]):=by kernel_rfl
theorem chk_13 (n:Nat):rn PP EP CP (n+100) (.call 6 [.sl 0 12 0 13 none] (hp [rwF 12 (qa0 13)]))=.ret (.osl 3 []) (hp [rwF 12 (qa0 13)]):=by kernel_rfl
theorem chk_24 (n:Nat):rn PP EP CP (n+100) (.call 6 [.sl 0 23 0 24 none] (hp [rwF 23 (qa0 24)]))=.ret (.osl 3 []) (hp [rwF 23 (qa0 24)]):=by kernel_rfl
theorem chk_29 (n:Nat):rn PP EP CP (n+100) (.call 6 [.sl 0 28 0 29 none] (hp [rwF 28 (qa0 29)]))=.ret (.osl 3 []) (hp [rwF 28 (qa0 29)]):=by kernel_rfl
theorem chk_40 (n:Nat):rn PP EP CP (n+100) (.call 6 [.sl 0 39 0 40 none] (hp [rwF 39 (qa0 40)]))=.ret (.osl 3 []) (hp [rwF 39 (qa0 40)]):=by kernel_rfl
theorem chk_45 (n:Nat):rn PP EP CP (n+100) (.call 6 [.sl 0 44 0 45 none] (hp [rwF 44 (qa0 45)]))=.ret (.osl 3 []) (hp [rwF 44 (qa0 45)]):=by kernel_rfl
end Go.AM
