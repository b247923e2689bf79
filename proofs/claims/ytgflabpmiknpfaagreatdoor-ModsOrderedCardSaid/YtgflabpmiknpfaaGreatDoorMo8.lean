/-
  WHAT FUNCTIONS OF THE PROGRAM COME TO, told by the machine, and plain laws of it. No condition but what each theorem says of its arguments.
-/
import Derived.Test.YtgflabpmiknpfaaGreatDoorMo6
namespace Go.AM
open Go.Proofs
set_option maxRecDepth 100000
set_option maxHeartbeats 4000000
theorem chk_4 (n:Nat):rn PP EP CP (n+100) (.call 6 [.sl 0 3 0 4 none] (hp [rwF 3 (qa0 4)]))=.ret (.osl 3 []) (hp [rwF 3 (qa0 4)]):=by kernel_rfl
theorem chk_17 (n:Nat):rn PP EP CP (n+100) (.call 6 [.sl 0 16 0 17 none] (hp [rwF 16 (qa0 17)]))=.ret (.osl 3 []) (hp [rwF 16 (qa0 17)]):=by kernel_rfl
theorem chk_20 (n:Nat):rn PP EP CP (n+100) (.call 6 [.sl 0 19 0 20 none] (hp [rwF 19 (qa0 20)]))=.ret (.osl 3 []) (hp [rwF 19 (qa0 20)]):=by kernel_rfl
theorem chk_33 (n:Nat):rn PP EP CP (n+100) (.call 6 [.sl 0 32 0 33 none] (hp [rwF 32 (qa0 33)]))=.ret (.osl 3 []) (hp [rwF 32 (qa0 33)]):=by kernel_rfl
theorem chk_36 (n:Nat):rn PP EP CP (n+100) (.call 6 [.sl 0 35 0 36 none] (hp [rwF 35 (qa0 36)]))=.ret (.osl 3 []) (hp [rwF 35 (qa0 36)]):=by kernel_rfl
theorem chk_49 (n:Nat):rn PP EP CP (n+100) (.call 6 [.sl 0 48 0 49 none] (hp [rwF 48 (qa0 49)]))=.ret (.osl 3 []) (hp [rwF 48 (qa0 49)]):=by kernel_rfl
end Go.AM
