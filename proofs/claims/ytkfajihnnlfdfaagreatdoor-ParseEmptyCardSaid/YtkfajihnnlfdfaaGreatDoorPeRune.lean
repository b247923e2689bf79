/-
  WHAT FUNCTIONS COME TO, walked over states of which a part is known. No condition but what each says of its arguments.
-/
import Derived.Test.YtkfajihnnlfdfaaGreatDoorAmEnvU
namespace Go.AM
open Go.Proofs
set_option maxRecDepth 100000
set_option maxHeartbeats 4000000

/-- The same, of four bytes, and which of them are there. -/
def decG (b0 b1 b2 b3 : Nat) (c1 c2 c3 : Bool) : Nat × Nat :=
  if b0 < 0x80 then (b0, 1)
  else if b0 / 32 == 6 && (c1 && b1 / 64 == 2) then
    if b0 % 32 * 64 + b1 % 64 ≥ 0x80 then (b0 % 32 * 64 + b1 % 64, 2) else (65533, 1)
  else if b0 / 16 == 14 && (c1 && b1 / 64 == 2) && (c2 && b2 / 64 == 2) then
    if b0 % 16 * 4096 + b1 % 64 * 64 + b2 % 64 ≥ 0x800 && Utf8.valid (b0 % 16 * 4096 + b1 % 64 * 64 + b2 % 64 : Nat) then (b0 % 16 * 4096 + b1 % 64 * 64 + b2 % 64, 3) else (65533, 1)
  else if b0 / 8 == 30 && (c1 && b1 / 64 == 2) && (c2 && b2 / 64 == 2) && (c3 && b3 / 64 == 2) then
    if b0 % 8 * 262144 + b1 % 64 * 4096 + b2 % 64 * 64 + b3 % 64 ≥ 0x10000 && Utf8.valid (b0 % 8 * 262144 + b1 % 64 * 4096 + b2 % 64 * 64 + b3 % 64 : Nat) then (b0 % 8 * 262144 + b1 % 64 * 4096 + b2 % 64 * 64 + b3 % 64, 4) else (65533, 1)
  else (65533, 1)
def atN (s : List UInt8) (k : Nat) : Nat := (s.getD k 0).toNat
theorem get!_list (s : List UInt8) (j : Nat) : (ByteArray.mk ⟨s⟩).get! j = s.getD j 0 := by
  simp [ByteArray.get!, List.getD_eq_getElem?_getD]
  rfl
theorem size_list (s : List UInt8) : (ByteArray.mk ⟨s⟩).size = s.length := rfl
theorem decode_list (s : List UInt8) (i : Nat) : Utf8.decode ⟨⟨s⟩⟩ i = decG (atN s i) (atN s (i + 1)) (atN s (i + 2)) (atN s (i + 3)) (decide (i + 1 < s.length)) (decide (i + 2 < s.length)) (decide (i + 3 < s.length)) := by
  unfold Utf8.decode decG atN
  simp only [get!_list, size_list, Nat.add_zero, Utf8.runeError]


end Go.AM
