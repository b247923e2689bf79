/-
  WHAT FUNCTIONS OF THE PROGRAM COME TO, told by the machine, and plain laws of it. No condition but what each theorem says of its arguments.
-/
import Derived.Test.YtgflabpmiknpfaaGreatDoorMo6
namespace Go.AM
open Go.Proofs
set_option maxRecDepth 100000
set_option maxHeartbeats 4000000
theorem chk_10 (n:Nat):rn PP EP CP (n+100) (.call 6 [.sl 0 9 0 10 none] (hp [rwF 9 (qa0 10)]))=.ret (.osl 3 []) (hp [rwF 9 (qa0 10)]):=by kernel_rfl
theorem chk_11 (n:Nat):rn PP EP CP (n+100) (.call 6 [.sl 0 10 0 11 none] (hp [rwF 10 (qa0 11)]))=.ret (.osl 3 []) (hp [rwF 10 (qa0 11)]):=by kernel_rfl
theorem chk_26 (n:Nat):rn PP EP CP (n+100) (.call 6 [.sl 0 25 0 26 none] (hp [rwF 25 (qa0 26)]))=.ret (.osl 3 []) (hp [rwF 25 (qa0 26)]):=by kernel_rfl
theorem chk_27 (n:Nat):rn PP EP CP (n+100) (.call 6 [.sl 0 26 0 27 none] (hp [rwF 26 (qa0 27)]))=.ret (.osl 3 []) (hp [rwF 26 (qa0 27)]):=by kernel_rfl
theorem chk_42 (n:Nat):rn PP EP CP (n+100) (.call 6 [.sl 0 41 0 42 none] (hp [rwF 41 (qa0 42)]))=.ret (.osl 3 []) (hp [rwF 41 (qa0 42)]):=by kernel_rfl
theorem chk_43 (n:Nat):rn PP EP CP (n+100) (.call 6 [.sl 0 42 0 43 none] (hp [rwF 42 (qa0 43)]))=.ret (.osl 3 []) (hp [rwF 42 (qa0 43)]):=by kernel_rfl
end Go.AM
