/-
  WHAT FUNCTIONS OF THE PROGRAM COME TO, told by the machine, and plain laws of it. No condition but what each theorem says of its arguments.
-/
import Derived.Test.YtgflabpmiknpfaaGreatDoorMo6
namespace Go.AM
open Go.Proofs
set_option maxRecDepth 100000
set_option maxHeartbeats 4000000
theorem chk_5 (n:Nat):rn PP EP CP (n+100) (.call 6 [.sl 0 4 0 5 none] (hp [rwF 4 (qa0 5)]))=.ret (.osl 3 []) (hp [rwF 4 (qa0 5)]):=by kernel_rfl
theorem chk_16 (n:Nat):rn PP EP CP (n+100) (.call 6 [.sl 0 15 0 16 none] (hp [rwF 15 (qa0 16)]))=.ret (.osl 3 []) (hp [rwF 15 (qa0 16)]):=by kernel_rfl
theorem chk_21 (n:Nat):rn PP EP CP (n+100) (.call 6 [.sl 0 20 0 21 none] (hp [rwF 20 (qa0 21)]))=.ret (.osl 3 []) (hp [rwF 20 (qa0 21)]):=by kernel_rfl
theorem chk_32 (n:Nat):rn PP EP CP (n+100) (.call 6 [.sl 0 31 0 32 none] (hp [rwF 31 (qa0 32)]))=.ret (.osl 3 []) (hp [rwF 31 (qa0 32)]):=by kernel_rfl
theorem chk_37 (n:Nat):rn PP EP CP (n+100) (.call 6 [.sl 0 36 0 37 none] (hp [rwF 36 (qa0 37)]))=.ret (.osl 3 []) (hp [rwF 36 (qa0 37)]):=by kernel_rfl
theorem chk_48 (n:Nat):rn PP EP CP (n+100) (.call 6 [.sl 0 47 0 48 none] (hp [rwF 47 (qa0 48)]))=.ret (.osl 3 []) (hp [rwF 47 (qa0 48)]):=by kernel_rfl
end Go.AM
