/-
  Cases laid side by side.
-/
import Derived.Test.YtaahfplokcfncaaGreatDoorAmFin
namespace Go.AM
theorem every_app {α : Type} {f : α → Bool} {a b : List α} (h1 : every f a = true) (h2 : every f b = true) : every f (a ++ b) = true := by
  rw [every_iff] at *
  intro x hx
  rw [List.mem_append] at hx
  exact hx.elim (h1 x) (h2 x)
def pairs (m n : Nat) : List (Nat × Nat) := (List.range m).flatMap fun x => (List.range n).map fun y => (x, y)
theorem mem_pairs {m n x y : Nat} (hx : x < m) (hy : y < n) : (x, y) ∈ pairs m n := by
  unfold pairs
  rw [List.mem_flatMap]
  exact ⟨x, by simp [hx], by simp [hy]⟩

end Go.AM
