/-
  WHAT FUNCTIONS OF THE PROGRAM COME TO: walked over states of which a part is known. No condition but what each theorem says of its arguments.
-/
import Derived.Test.YtejbaikaiifpaaaDoorLaysP6
namespace Go.AM
open Go.Proofs
set_option maxRecDepth 100000
set_option maxHeartbeats 4000000
noncomputable def zj3 (k:Nat):Bool:=zi7 (run Tryd.prog E0 100000 (.call 33 [.str [32],.int .i64 (k:Int)] Heap.empty)) (.str (j2 k))
noncomputable def q68 (a n:Nat):Bool:=Nat.rec true (fun k ih=>bif zj3 (a+k) then ih else false) n
theorem q10 (a n:Nat):q68 a n=true→∀ k,k<n→zj3 (a+k)=true:=by
 induction n with
 | zero=>intro _ k h;omega
 | succ n IH =>
  intro h k hk
  change (bif zj3 (a+n) then q68 a n else false)=true at h
  cases hc:zj3 (a+n) with
  | false=>rw [hc] at h;cases h
  | true =>
   rw [hc] at h
   by_cases e:k=n
   ·subst e;exact hc
   ·exact IH h k (by omega)
theorem rep0:q68 0 129=true:=by kernel_rfl
theorem rep1:q68 129 16=true:=by kernel_rfl
theorem rep2:q68 145 16=true:=by kernel_rfl
theorem rep3:q68 161 16=true:=by kernel_rfl
theorem rep4:q68 177 16=true:=by kernel_rfl
theorem rep5:q68 193 16=true:=by kernel_rfl
theorem rep6:q68 209 16=true:=by kernel_rfl
theorem rep7:q68 225 16=true:=by kernel_rfl
theorem rep8:q68 241 16=true:=by kernel_rfl
theorem rep9:q68 257 16=true:=by kernel_rfl
theorem j74:q68 273 16=true:=by kernel_rfl
theorem j85:q68 289 16=true:=by kernel_rfl
theorem j81:q68 305 16=true:=by kernel_rfl
theorem j38 {k:Nat} (h:k<321):zj3 k=true:=by
 by_cases h0:k<129
 ·have:=q10 0 129 rep0 (k-0) (by omega);rwa [show 0+(k-0)=k by omega] at this
 by_cases h1:k<145
 ·have:=q10 129 16 rep1 (k-129) (by omega);rwa [show 129+(k-129)=k by omega] at this
 by_cases h2:k<161
 ·have:=q10 145 16 rep2 (k-145) (by omega);rwa [show 145+(k-145)=k by omega] at this
 by_cases h3:k<177
 ·have:=q10 161 16 rep3 (k-161) (by omega);rwa [show 161+(k-161)=k by omega] at this
 by_cases h4:k<193
 ·have:=q10 177 16 rep4 (k-177) (by omega);rwa [show 177+(k-177)=k by omega] at this
 by_cases h5:k<209
 ·have:=q10 193 16 rep5 (k-193) (by omega);rwa [show 193+(k-193)=k by omega] at this
 by_cases h6:k<225
 ·have:=q10 209 16 rep6 (k-209) (by omega);rwa [show 209+(k-209)=k by omega] at this
 by_cases h7:k<241
 ·have:=q10 225 16 rep7 (k-225) (by omega);rwa [show 225+(k-225)=k by omega] at this
 by_cases h8:k<257
 ·have:=q10 241 16 rep8 (k-241) (by omega);rwa [show 241+(k-241)=k by omega] at this
 by_cases h9:k<273
 ·have:=q10 257 16 rep9 (k-257) (by omega);rwa [show 257+(k-257)=k by omega] at this
 by_cases h10:k<289
 ·have:=q10 273 16 j74 (k-273) (by omega);rwa [show 273+(k-273)=k by omega] at this
 by_cases h11:k<305
 ·have:=q10 289 16 j85 (k-289) (by omega);rwa [show 289+(k-289)=k by omega] at this
 have:=q10 305 16 j81 (k-305) (by omega);rwa [show 305+(k-305)=k by omega] at this
theorem cRepeat {n:Int} (h0:0≤n) (h1:n≤320):Cp Tryd.prog EU 33 [.str [32],.int .i64 n] (.str (j2 n.toNat)):=by
 intro _
 have h:=j38 (k:=n.toNat) (by omega)
 have:=zn8 (E:=E0) (zk6 (zn9 (P:=Tryd.prog) (by kernel_rfl)) (zc1 rfl) 100000) h
 rw [show ((n.toNat:Nat):Int)=n by omega] at this
 exact this
end Go.AM
