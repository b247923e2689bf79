/-
  THE MACHINE's RUN IS THE MODEL's.
-/
import Derived.Test.YtaahfplokcfncaaGreatDoorAmYield
namespace Go.AM
open Go.RowKit

variable {P : Program} {E : Env}

theorem run_none (n : Nat) (t : Task) (h : n = 0) : run P E n t = .none 0 .none := by subst h; rfl

theorem run_snd (hN : NameOk P) (hP : PrimOk P E) (n : Nat) : Snd P E (run P E n) := by
  induction n with
  | zero => exact ⟨hP, fun _ _ _ _ _ _ _ _ _ => trivial, fun _ _ _ _ _ _ _ _ _ => trivial, fun _ _ _ _ _ _ _ _ _ _ => trivial, fun _ _ _ _ _ _ _ => trivial, fun _ _ _ _ _ _ _ _ _ _ _ _ => trivial⟩
  | succ n IH =>
    exact ⟨hP, fun c fr a b k cs hW hG hf => code_ok IH c fr a b k cs hW hG hf, fun c fr a b k cs hW hG hf => loop_ok IH c fr a b k cs hW hG hf,
      fun c cs f args us p hW hG hs hp => dcall_ok IH hN c cs f args us p hW hG hs hp, fun cs f args us hW hG hs => call_ok IH hN cs f args us hW hG hs, fun c cs l b k args us hW hG hv hm hs => yield_ok IH c cs l b k args us hW hG hv hm hs⟩

end Go.AM
