/-
  WHAT FUNCTIONS OF THE PROGRAM COME TO, told by the machine, and plain laws of it. No condition but what each theorem says of its arguments.
-/
import Derived.Test.YtgflabpmiknpfaaGreatDoorMo6
namespace Go.AM
open Go.Proofs
set_option maxRecDepth 100000
set_option maxHeartbeats 4000000
theorem chk_6 (n:Nat):rn PP EP CP (n+100) (.call 6 [.sl 0 5 0 6 none] (hp [rwF 5 (qa0 6)]))=.ret (.osl 3 []) (hp [rwF 5 (qa0 6)]):=by kernel_rfl
theorem chk_15 (n:Nat):rn PP EP CP (n+100) (.call 6 [.sl 0 14 0 15 none] (hp [rwF 14 (qa0 15)]))=.ret (.osl 3 []) (hp [rwF 14 (qa0 15)]):=by kernel_rfl
theorem chk_22 (n:Nat):rn PP EP CP (n+100) (.call 6 [.sl 0 21 0 22 none] (hp [rwF 21 (qa0 22)]))=.ret (.osl 3 []) (hp [rwF 21 (qa0 22)]):=by kernel_rfl
theorem chk_31 (n:Nat):rn PP EP CP (n+100) (.call 6 [.sl 0 30 0 31 none] (hp [rwF 30 (qa0 31)]))=.ret (.osl 3 []) (hp [rwF 30 (qa0 31)]):=by kernel_rfl
theorem chk_38 (n:Nat):rn PP EP CP (n+100) (.call 6 [.sl 0 37 0 38 none] (hp [rwF 37 (qa0 38)]))=.ret (.osl 3 []) (hp [rwF 37 (qa0 38)]):=by kernel_rfl
theorem chk_47 (n:Nat):rn PP EP CP (n+100) (.call 6 [.sl 0 46 0 47 none] (hp [rwF 46 (qa0 47)]))=.ret (.osl 3 []) (hp [rwF 46 (qa0 47)]):=by kernel_rfl
end Go.AM
