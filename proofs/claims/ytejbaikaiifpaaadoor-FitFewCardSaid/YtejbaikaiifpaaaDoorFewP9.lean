/-
  WHAT FUNCTIONS OF THE PROGRAM COME TO: walked over states of which a part is known. No condition but what each theorem says of its arguments.
-/
import Derived.Test.YtejbaikaiifpaaaDoorFewP6
namespace Go.AM
open Go.Proofs
set_option maxRecDepth 100000
set_option maxHeartbeats 4000000
noncomputable def repCk (k:Nat):Bool:=memoCk (run Tryd.prog E0 100000 (.call 33 [.str [32],.int .i64 (k:Int)] Heap.empty)) (.str (blanksOf k))
noncomputable def repAll (a n:Nat):Bool:=Nat.rec true (fun k ih => bif repCk (a + k) then ih else false) n
theorem repAll_iff (a n:Nat):repAll a n = true → ∀ k,k < n → repCk (a + k) = true:=by
 induction n with
 | zero => intro _ k h; omega
 | succ n IH =>
  intro h k hk
  change (bif repCk (a + n) then repAll a n else false) = true at h
  cases hc:repCk (a + n) with
  | false => rw [hc] at h; cases h
  | true =>
   rw [hc] at h
   by_cases e:k = n
   ·subst e; exact hc
   ·exact IH h k (by omega)
theorem rep0:repAll 0 129 = true:=by kernel_rfl
theorem rep1:repAll 129 16 = true:=by kernel_rfl
theorem rep2:repAll 145 16 = true:=by kernel_rfl
theorem rep3:repAll 161 16 = true:=by kernel_rfl
theorem rep4:repAll 177 16 = true:=by kernel_rfl
theorem rep5:repAll 193 16 = true:=by kernel_rfl
theorem rep6:repAll 209 16 = true:=by kernel_rfl
theorem rep7:repAll 225 16 = true:=by kernel_rfl
theorem rep8:repAll 241 16 = true:=by kernel_rfl
theorem rep9:repAll 257 16 = true:=by kernel_rfl
theorem rep10:repAll 273 16 = true:=by kernel_rfl
theorem rep11:repAll 289 16 = true:=by kernel_rfl
theorem rep12:repAll 305 16 = true:=by kernel_rfl
theorem repAny {k:Nat} (h:k < 321):repCk k = true:=by
 by_cases h0:k < 129
 ·have:=repAll_iff 0 129 rep0 (k - 0) (by omega); rwa [show 0 + (k - 0) = k by omega] at this
 by_cases h1:k < 145
 ·have:=repAll_iff 129 16 rep1 (k - 129) (by omega); rwa [show 129 + (k - 129) = k by omega] at this
 by_cases h2:k < 161
 ·have:=repAll_iff 145 16 rep2 (k - 145) (by omega); rwa [show 145 + (k - 145) = k by omega] at this
 by_cases h3:k < 177
 ·have:=repAll_iff 161 16 rep3 (k - 161) (by omega); rwa [show 161 + (k - 161) = k by omega] at this
 by_cases h4:k < 193
 ·have:=repAll_iff 177 16 rep4 (k - 177) (by omega); rwa [show 177 + (k - 177) = k by omega] at this
 by_cases h5:k < 209
 ·have:=repAll_iff 193 16 rep5 (k - 193) (by omega); rwa [show 193 + (k - 193) = k by omega] at this
 by_cases h6:k < 225
 ·have:=repAll_iff 209 16 rep6 (k - 209) (by omega); rwa [show 209 + (k - 209) = k by omega] at this
 by_cases h7:k < 241
 ·have:=repAll_iff 225 16 rep7 (k - 225) (by omega); rwa [show 225 + (k - 225) = k by omega] at this
 by_cases h8:k < 257
 ·have:=repAll_iff 241 16 rep8 (k - 241) (by omega); rwa [show 241 + (k - 241) = k by omega] at this
 by_cases h9:k < 273
 ·have:=repAll_iff 257 16 rep9 (k - 257) (by omega); rwa [show 257 + (k - 257) = k by omega] at this
 by_cases h10:k < 289
 ·have:=repAll_iff 273 16 rep10 (k - 273) (by omega); rwa [show 273 + (k - 273) = k by omega] at this
 by_cases h11:k < 305
 ·have:=repAll_iff 289 16 rep11 (k - 289) (by omega); rwa [show 289 + (k - 289) = k by omega] at this
 have:=repAll_iff 305 16 rep12 (k - 305) (by omega); rwa [show 305 + (k - 305) = k by omega] at this
theorem cRepeat {n:Int} (h0:0 ≤ n) (h1:n ≤ 320):Cp Tryd.prog EU 33 [.str [32],.int .i64 n] (.str (blanksOf n.toNat)):=by
 intro _
 have h:=repAny (k:=n.toNat) (by omega)
 have:=memo_pure (E:=E0) (run_snd (nameOk_of (P:=Tryd.prog) (by kernel_rfl)) (primNone_ok rfl) 100000) h
 rw [show ((n.toNat:Nat):Int) = n by omega] at this
 exact this
end Go.AM
