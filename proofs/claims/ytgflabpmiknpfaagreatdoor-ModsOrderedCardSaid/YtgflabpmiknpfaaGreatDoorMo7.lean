/-
  WHAT FUNCTIONS OF THE PROGRAM COME TO, told by the machine, and plain laws of it. No condition but what each theorem says of its arguments.
-/
import Derived.Test.YtgflabpmiknpfaaGreatDoorMo6
namespace Go.AM
open Go.Proofs
set_option maxRecDepth 100000
set_option maxHeartbeats 4000000
theorem chk_2 (n:Nat):rn PP EP CP (n+100) (.call 6 [.sl 0 1 0 2 none] (hp [rwF 1 (qa0 2)]))=.ret (.osl 3 []) (hp [rwF 1 (qa0 2)]):=by kernel_rfl
theorem chk_3 (n:Nat):rn PP EP CP (n+100) (.call 6 [.sl 0 2 0 3 none] (hp [rwF 2 (qa0 3)]))=.ret (.osl 3 []) (hp [rwF 2 (qa0 3)]):=by kernel_rfl
theorem chk_18 (n:Nat):rn PP EP CP (n+100) (.call 6 [.sl 0 17 0 18 none] (hp [rwF 17 (qa0 18)]))=.ret (.osl 3 []) (hp [rwF 17 (qa0 18)]):=by kernel_rfl
theorem chk_19 (n:Nat):rn PP EP CP (n+100) (.call 6 [.sl 0 18 0 19 none] (hp [rwF 18 (qa0 19)]))=.ret (.osl 3 []) (hp [rwF 18 (qa0 19)]):=by kernel_rfl
theorem chk_34 (n:Nat):rn PP EP CP (n+100) (.call 6 [.sl 0 33 0 34 none] (hp [rwF 33 (qa0 34)]))=.ret (.osl 3 []) (hp [rwF 33 (qa0 34)]):=by kernel_rfl
theorem chk_35 (n:Nat):rn PP EP CP (n+100) (.call 6 [.sl 0 34 0 35 none] (hp [rwF 34 (qa0 35)]))=.ret (.osl 3 []) (hp [rwF 34 (qa0 35)]):=by kernel_rfl
theorem chk_50 (n:Nat):rn PP EP CP (n+100) (.call 6 [.sl 0 49 0 50 none] (hp [rwF 49 (qa0 50)]))=.ret (.osl 3 []) (hp [rwF 49 (qa0 50)]):=by kernel_rfl
end Go.AM
