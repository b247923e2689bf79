/-
  THE DOCUMENT's OWN FUNCTIONS, over any text: walked over states of which a part is known. No condition but what each says of its arguments.
-/
import Derived.Test.YtimkfnaodbfjmaaDoorUtfAskA
namespace Go.AM
open Go.Proofs
set_option maxRecDepth 100000
set_option maxHeartbeats 4000000

theorem c33_1 (s : List UInt8) (hs : s ≠ []) (hl : 1 < s.length) (h : 194 ≤ byteAt s 0 ∧ byteAt s 0 ≤ 223) : Cp Tryd.prog EU 33 [.str s] (.int .i64 ((one s : Nat) : Int)) := by
  have h0 : 0 < s.length := List.length_pos_iff.2 hs
  have hs' : ¬ s = [] := hs
  have hn : moreI (byteAt s 0) = 1 := by
    unfold moreI
    repeat' split
    all_goals omega
  have hc := c39 (byteAt s 0)
  rw [hn] at hc
  have e0 : byteAt s 0 = (atN s 0 : Int) := rfl
  have e1 : byteAt s 1 = (atN s 1 : Int) := rfl
  have e2 : byteAt s 2 = (atN s 2 : Int) := rfl
  have e3 : byteAt s 3 = (atN s 3 : Int) := rfl
  have q0 := atN_lt s 0
  have q1 := atN_lt s 1
  have q2 := atN_lt s 2
  have q3 := atN_lt s 3
  have ho := one_eq hs
  rw [oneG_1 (by omega)] at ho
  simp only [decide_eq_true_eq] at ho
  refine Cp.body (fn := Tryd.f33) Tryd.func33 rfl (by kernel_rfl) ?_
  refine Wc.seq ?_
  refine Wc.whole (b := (base 33 80)) [0, 2] [(0, (.str (s))), (2, (.int .i64 0))] Heap.empty [] (by kernel_rfl) .nil ?_
  refine Wc.seq ?_
  refine Wc.seq ?_
  refine Wc.enter ?_
  refine Wl.batch (b := (base 33 80)) 0 3 [0, 2, 9] [(0, (.str (s))), (2, (.int .i64 0)), (9, (.bool (decide (s = []))))] Heap.empty [] (by kernel_rfl) rfl .nil ?_
  refine Wl.known [(0, (.str (s))), (2, (.int .i64 0)), (9, (.bool false))] (by have e := decide_eq_false (show ¬ (s = []) from hs'); simp only [e] <;> rfl) ?_
  refine Wl.batch (b := (base 33 80)) 3 5 [0, 2, 9, 11] [(0, (.str (s))), (2, (.int .i64 0)), (9, (.bool false)), (11, (.int .u8 (byteAt s 0)))] Heap.empty [(((0 : Int) ≤ (0 : Int)) ∧ ((0 : Int) < (↑(List.length s) : Int)))] (by kernel_rfl) rfl (.cons (by omega) .nil) ?_
  refine Wl.callP (b := (base 33 80)) (h1 := Heap.empty) (h2 := Heap.empty) (v := (.int .i64 1)) (d := (some 12)) 5 [0, 2, 9, 12] [(0, (.str (s))), (2, (.int .i64 0)), (9, (.bool false)), (12, (.int .i64 1))] (@hc) (by kernel_rfl) (by kernel_rfl) (by kernel_rfl) ?_
  refine Wl.batch (b := (base 33 80)) 6 11 [0, 2, 15, 17] [(0, (.str (s))), (2, (.int .i64 0)), (15, (.bool false)), (17, (.int .u8 (byteAt s 0)))] Heap.empty [(((0 : Int) ≤ (0 : Int)) ∧ ((0 : Int) < (↑(List.length s) : Int)))] (by kernel_rfl) rfl (.cons (by omega) .nil) ?_
  refine Wl.callP (b := (base 33 80)) (h1 := Heap.empty) (h2 := Heap.empty) (v := (.int .i64 1)) (d := (some 18)) 11 [0, 2, 15, 18] [(0, (.str (s))), (2, (.int .i64 0)), (15, (.bool false)), (18, (.int .i64 1))] (@hc) (by kernel_rfl) (by kernel_rfl) (by kernel_rfl) ?_
  refine Wl.batch (b := (base 33 80)) 12 16 [0, 2, 22] [(0, (.str (s))), (2, (.int .i64 0)), (22, (.bool (decide ((↑(List.length s) : Int) ≤ 1))))] Heap.empty [] (by kernel_rfl) rfl .nil ?_
  refine Wl.done 16 rfl ?_
  refine Wc.condP (p := (↑(List.length s) : Int) ≤ 1) (by kernel_rfl) (by kernel_rfl) (fun c2 => absurd c2 (show ¬ ((↑(List.length s) : Int) ≤ 1) from (by omega))) (fun c2 => ?_)
  refine Wc.skip ?_
  refine Wc.seq ?_
  refine Wc.enter ?_
  refine Wl.batch (b := (base 33 80)) 0 2 [0, 2, 22, 24] [(0, (.str (s))), (2, (.int .i64 0)), (22, (.bool (decide ((↑(List.length s) : Int) ≤ 1)))), (24, (.int .u8 (byteAt s 0)))] Heap.empty [(((0 : Int) ≤ (0 : Int)) ∧ ((0 : Int) < (↑(List.length s) : Int)))] (by kernel_rfl) rfl (.cons (by omega) .nil) ?_
  refine Wl.callP (b := (base 33 80)) (h1 := Heap.empty) (h2 := Heap.empty) (v := (.int .i64 1)) (d := (some 25)) 2 [0, 2, 22, 25] [(0, (.str (s))), (2, (.int .i64 0)), (22, (.bool (decide ((↑(List.length s) : Int) ≤ 1)))), (25, (.int .i64 1))] (@hc) (by kernel_rfl) (by kernel_rfl) (by kernel_rfl) ?_
  refine Wl.batch (b := (base 33 80)) 3 4 [0, 2, 3, 22] [(0, (.str (s))), (2, (.int .i64 0)), (3, (.int .i64 1)), (22, (.bool (decide ((↑(List.length s) : Int) ≤ 1))))] Heap.empty [] (by kernel_rfl) rfl .nil ?_
  refine Wl.done 4 rfl ?_
  refine Wc.seq ?_
  refine Wc.whole (b := (base 33 80)) [0, 2, 3, 4, 22] [(0, (.str (s))), (2, (.int .i64 0)), (3, (.int .i64 1)), (4, (.int .i64 (byteAt s 0))), (22, (.bool (decide ((↑(List.length s) : Int) ≤ 1))))] Heap.empty [(((0 : Int) ≤ (0 : Int)) ∧ ((0 : Int) < (↑(List.length s) : Int))), (((-9223372036854775808 : Int) ≤ byteAt s (0 : Int)) ∧ (byteAt s (0 : Int) ≤ (9223372036854775807 : Int)))] (by kernel_rfl) (.cons (by omega) (.cons (by omega) .nil)) ?_
  refine Wc.seq ?_
  refine Wc.seq ?_
  refine Wc.whole (b := (base 33 80)) [0, 2, 3, 4, 22, 30] [(0, (.str (s))), (2, (.int .i64 0)), (3, (.int .i64 1)), (4, (.int .i64 (byteAt s 0))), (22, (.bool (decide ((↑(List.length s) : Int) ≤ 1)))), (30, (.bool true))] Heap.empty [] (by kernel_rfl) .nil ?_
  refine Wc.condT (by kernel_rfl) (by kernel_rfl) ?_
  refine Wc.whole (b := (base 33 80)) [0, 2, 3, 4, 22, 30] [(0, (.str (s))), (2, (.int .i64 0)), (3, (.int .i64 1)), (4, (.int .i64 (byteAt s 0 % 32))), (22, (.bool (decide ((↑(List.length s) : Int) ≤ 1)))), (30, (.bool true))] Heap.empty [(((0 : Int) ≤ (1 : Int)) ∧ ((1 : Int) ≤ (18446744073709551615 : Int))), (((0 : Int) ≤ byteAt s (0 : Int)) ∧ ((0 : Int) < (32 : Int)))] (by kernel_rfl) (.cons (by omega) (.cons (by omega) .nil)) ?_
  refine Wc.seq ?_
  refine Wc.seq ?_
  refine Wc.whole (b := (base 33 80)) [0, 2, 3, 4, 5, 22, 30] [(0, (.str (s))), (2, (.int .i64 0)), (3, (.int .i64 1)), (4, (.int .i64 (byteAt s 0 % 32))), (5, (.int .i64 1)), (22, (.bool (decide ((↑(List.length s) : Int) ≤ 1)))), (30, (.bool true))] Heap.empty [] (by kernel_rfl) .nil ?_
  refine Wc.block ?_
  refine Wc.unroll ?_
  refine Wc.seq ?_
  refine Wc.seq ?_
  refine Wc.whole (b := (base 33 80)) [0, 2, 3, 4, 5, 22, 30, 38] [(0, (.str (s))), (2, (.int .i64 0)), (3, (.int .i64 1)), (4, (.int .i64 (byteAt s 0 % 32))), (5, (.int .i64 1)), (22, (.bool (decide ((↑(List.length s) : Int) ≤ 1)))), (30, (.bool true)), (38, (.bool true))] Heap.empty [] (by kernel_rfl) .nil ?_
  refine Wc.condT (by kernel_rfl) (by kernel_rfl) ?_
  refine Wc.skip ?_
  refine Wc.seq ?_
  refine Wc.block ?_
  refine Wc.seq ?_
  refine Wc.seq ?_
  refine Wc.enter ?_
  refine Wl.batch (b := (base 33 80)) 0 5 [0, 2, 3, 4, 5, 22, 30, 38, 45] [(0, (.str (s))), (2, (.int .i64 0)), (3, (.int .i64 1)), (4, (.int .i64 (byteAt s 0 % 32))), (5, (.int .i64 1)), (22, (.bool (decide ((↑(List.length s) : Int) ≤ 1)))), (30, (.bool true)), (38, (.bool true)), (45, (.bool (decide (byteAt s 1 < 128))))] Heap.empty [(((0 : Int) ≤ (1 : Int)) ∧ ((1 : Int) < (↑(List.length s) : Int)))] (by kernel_rfl) rfl (.cons (by omega) .nil) ?_
  by_cases ga3 : byteAt s 1 < 128
  · refine Wl.known [(0, (.str (s))), (2, (.int .i64 0)), (3, (.int .i64 1)), (4, (.int .i64 (byteAt s 0 % 32))), (5, (.int .i64 1)), (22, (.bool (decide ((↑(List.length s) : Int) ≤ 1)))), (30, (.bool true)), (38, (.bool true)), (45, (.bool true))] (by have e := decide_eq_true (show byteAt s 1 < 128 from ga3); simp only [e] <;> rfl) ?_
    refine Wl.batch (b := (base 33 80)) 5 10 [0, 2, 3, 4, 5, 22, 30, 38, 50] [(0, (.str (s))), (2, (.int .i64 0)), (3, (.int .i64 1)), (4, (.int .i64 (byteAt s 0 % 32))), (5, (.int .i64 1)), (22, (.bool (decide ((↑(List.length s) : Int) ≤ 1)))), (30, (.bool true)), (38, (.bool true)), (50, (.bool true))] Heap.empty [] (by kernel_rfl) rfl .nil ?_
    refine Wl.done 10 rfl ?_
    refine Wc.condT (by kernel_rfl) (by kernel_rfl) ?_
    refine Wc.seq ?_
    refine Wc.whole (b := (base 33 80)) [0, 2, 3, 4, 5, 22, 30, 38, 50] [(0, (.str (s))), (2, (.int .i64 0)), (3, (.int .i64 1)), (4, (.int .i64 (byteAt s 0 % 32))), (5, (.int .i64 1)), (22, (.bool (decide ((↑(List.length s) : Int) ≤ 1)))), (30, (.bool true)), (38, (.bool true)), (50, (.bool true))] Heap.empty [] (by kernel_rfl) .nil ?_
    refine Wc.ret ?_
    refine blockX.ret ?_
    refine blockX.ret ?_
    refine retX.mk (.int .i64 0) ⟨rfl, rfl⟩ (by kernel_rfl) ?_
    have e : one s = 0 := by rw [ho, if_neg (by omega)]
    rw [e]; rfl
  · refine Wl.known [(0, (.str (s))), (2, (.int .i64 0)), (3, (.int .i64 1)), (4, (.int .i64 (byteAt s 0 % 32))), (5, (.int .i64 1)), (22, (.bool (decide ((↑(List.length s) : Int) ≤ 1)))), (30, (.bool true)), (38, (.bool true)), (45, (.bool false))] (by have e := decide_eq_false (show ¬ (byteAt s 1 < 128) from ga3); simp only [e] <;> rfl) ?_
    refine Wl.batch (b := (base 33 80)) 5 10 [0, 2, 3, 4, 5, 22, 30, 38, 50] [(0, (.str (s))), (2, (.int .i64 0)), (3, (.int .i64 1)), (4, (.int .i64 (byteAt s 0 % 32))), (5, (.int .i64 1)), (22, (.bool (decide ((↑(List.length s) : Int) ≤ 1)))), (30, (.bool true)), (38, (.bool true)), (50, (.bool (decide (191 < byteAt s 1))))] Heap.empty [(((0 : Int) ≤ (1 : Int)) ∧ ((1 : Int) < (↑(List.length s) : Int)))] (by kernel_rfl) rfl (.cons (by omega) .nil) ?_
    refine Wl.done 10 rfl ?_
    refine Wc.condP (p := 191 < byteAt s 1) (by kernel_rfl) (by kernel_rfl) (fun c2 => ?_) (fun c2 => ?_)
    · refine Wc.seq ?_
      refine Wc.whole (b := (base 33 80)) [0, 2, 3, 4, 5, 22, 30, 38, 50] [(0, (.str (s))), (2, (.int .i64 0)), (3, (.int .i64 1)), (4, (.int .i64 (byteAt s 0 % 32))), (5, (.int .i64 1)), (22, (.bool (decide ((↑(List.length s) : Int) ≤ 1)))), (30, (.bool true)), (38, (.bool true)), (50, (.bool (decide (191 < byteAt s 1))))] Heap.empty [] (by kernel_rfl) .nil ?_
      refine Wc.ret ?_
      refine blockX.ret ?_
      refine blockX.ret ?_
      refine retX.mk (.int .i64 0) ⟨rfl, rfl⟩ (by kernel_rfl) ?_
      have e : one s = 0 := by rw [ho, if_neg (by omega)]
      rw [e]; rfl
    · refine Wc.skip ?_
      refine Wc.whole (b := (base 33 80)) [0, 2, 3, 4, 5, 22, 30, 38, 50] [(0, (.str (s))), (2, (.int .i64 0)), (3, (.int .i64 1)), (4, (.int .i64 (64 * (byteAt s 0 % 32) + byteAt s 1 % 64))), (5, (.int .i64 1)), (22, (.bool (decide ((↑(List.length s) : Int) ≤ 1)))), (30, (.bool true)), (38, (.bool true)), (50, (.bool (decide (191 < byteAt s 1))))] Heap.empty [(((-9223372036854775808 : Int) ≤ (64 : Int) * (byteAt s (0 : Int) % (32 : Int))) ∧ ((64 : Int) * (byteAt s (0 : Int) % (32 : Int)) ≤ (9223372036854775807 : Int))), (((0 : Int) ≤ (1 : Int)) ∧ ((1 : Int) < (↑(List.length s) : Int))), (((0 : Int) ≤ byteAt s (1 : Int)) ∧ ((0 : Int) < (64 : Int))), (((-9223372036854775808 : Int) ≤ byteAt s (1 : Int) % (64 : Int)) ∧ (byteAt s (1 : Int) % (64 : Int) ≤ (9223372036854775807 : Int))), (((-9223372036854775808 : Int) ≤ (64 : Int) * (byteAt s (0 : Int) % (32 : Int)) + byteAt s (1 : Int) % (64 : Int)) ∧ ((64 : Int) * (byteAt s (0 : Int) % (32 : Int)) + byteAt s (1 : Int) % (64 : Int) ≤ (9223372036854775807 : Int)))] (by kernel_rfl) (.cons (by omega) (.cons (by omega) (.cons (by omega) (.cons (by omega) (.cons (by omega) .nil))))) ?_
      refine Wc.whole (b := (base 33 80)) [0, 2, 3, 4, 5, 22, 30, 38, 50] [(0, (.str (s))), (2, (.int .i64 0)), (3, (.int .i64 1)), (4, (.int .i64 (64 * (byteAt s 0 % 32) + byteAt s 1 % 64))), (5, (.int .i64 2)), (22, (.bool (decide ((↑(List.length s) : Int) ≤ 1)))), (30, (.bool true)), (38, (.bool true)), (50, (.bool (decide (191 < byteAt s 1))))] Heap.empty [(((-9223372036854775808 : Int) ≤ (2 : Int)) ∧ ((2 : Int) ≤ (9223372036854775807 : Int)))] (by kernel_rfl) (.cons (by omega) .nil) ?_
      refine Wc.unroll ?_
      refine Wc.seq ?_
      refine Wc.seq ?_
      refine Wc.whole (b := (base 33 80)) [0, 2, 3, 4, 5, 22, 30, 38, 50] [(0, (.str (s))), (2, (.int .i64 0)), (3, (.int .i64 1)), (4, (.int .i64 (64 * (byteAt s 0 % 32) + byteAt s 1 % 64))), (5, (.int .i64 2)), (22, (.bool (decide ((↑(List.length s) : Int) ≤ 1)))), (30, (.bool true)), (38, (.bool false)), (50, (.bool (decide (191 < byteAt s 1))))] Heap.empty [] (by kernel_rfl) .nil ?_
      refine Wc.condF (by kernel_rfl) (by kernel_rfl) ?_
      refine Wc.exit ?_
      refine blockX.here ?_
      refine Wc.seq ?_
      refine Wc.whole (b := (base 33 80)) [0, 2, 3, 4, 5, 6, 22, 30, 38, 50] [(0, (.str (s))), (2, (.int .i64 0)), (3, (.int .i64 1)), (4, (.int .i64 (64 * (byteAt s 0 % 32) + byteAt s 1 % 64))), (5, (.int .i64 2)), (6, (.int .i64 128)), (22, (.bool (decide ((↑(List.length s) : Int) ≤ 1)))), (30, (.bool true)), (38, (.bool false)), (50, (.bool (decide (191 < byteAt s 1))))] Heap.empty [(((0 : Int) ≤ (1 : Int)) ∧ ((1 : Int) < (4 : Int)))] (by kernel_rfl) (.cons (by omega) .nil) ?_
      refine Wc.seq ?_
      refine Wc.seq ?_
      refine Wc.enter ?_
      refine Wl.batch (b := (base 33 80)) 0 4 [0, 2, 3, 4, 5, 6, 22, 30, 38, 50, 66] [(0, (.str (s))), (2, (.int .i64 0)), (3, (.int .i64 1)), (4, (.int .i64 (64 * (byteAt s 0 % 32) + byteAt s 1 % 64))), (5, (.int .i64 2)), (6, (.int .i64 128)), (22, (.bool (decide ((↑(List.length s) : Int) ≤ 1)))), (30, (.bool true)), (38, (.bool false)), (50, (.bool (decide (191 < byteAt s 1)))), (66, (.bool (decide (64 * (byteAt s 0 % 32) + byteAt s 1 % 64 < 128))))] Heap.empty [] (by kernel_rfl) rfl .nil ?_
      refine Wl.known [(0, (.str (s))), (2, (.int .i64 0)), (3, (.int .i64 1)), (4, (.int .i64 (64 * (byteAt s 0 % 32) + byteAt s 1 % 64))), (5, (.int .i64 2)), (6, (.int .i64 128)), (22, (.bool (decide ((↑(List.length s) : Int) ≤ 1)))), (30, (.bool true)), (38, (.bool false)), (50, (.bool (decide (191 < byteAt s 1)))), (66, (.bool false))] (by have e := decide_eq_false (show ¬ (64 * (byteAt s 0 % 32) + byteAt s 1 % 64 < 128) from (by omega)); simp only [e] <;> rfl) ?_
      refine Wl.batch (b := (base 33 80)) 4 7 [0, 2, 3, 4, 5, 6, 22, 30, 38, 50, 66, 69] [(0, (.str (s))), (2, (.int .i64 0)), (3, (.int .i64 1)), (4, (.int .i64 (64 * (byteAt s 0 % 32) + byteAt s 1 % 64))), (5, (.int .i64 2)), (6, (.int .i64 128)), (22, (.bool (decide ((↑(List.length s) : Int) ≤ 1)))), (30, (.bool true)), (38, (.bool false)), (50, (.bool (decide (191 < byteAt s 1)))), (66, (.bool false)), (69, (.bool (decide (55296 ≤ 64 * (byteAt s 0 % 32) + byteAt s 1 % 64))))] Heap.empty [] (by kernel_rfl) rfl .nil ?_
      refine Wl.known [(0, (.str (s))), (2, (.int .i64 0)), (3, (.int .i64 1)), (4, (.int .i64 (64 * (byteAt s 0 % 32) + byteAt s 1 % 64))), (5, (.int .i64 2)), (6, (.int .i64 128)), (22, (.bool (decide ((↑(List.length s) : Int) ≤ 1)))), (30, (.bool true)), (38, (.bool false)), (50, (.bool (decide (191 < byteAt s 1)))), (66, (.bool false)), (69, (.bool false))] (by have e := decide_eq_false (show ¬ (55296 ≤ 64 * (byteAt s 0 % 32) + byteAt s 1 % 64) from (by omega)); simp only [e] <;> rfl) ?_
      refine Wl.batch (b := (base 33 80)) 7 15 [0, 2, 3, 4, 5, 6, 22, 30, 38, 50, 77] [(0, (.str (s))), (2, (.int .i64 0)), (3, (.int .i64 1)), (4, (.int .i64 (64 * (byteAt s 0 % 32) + byteAt s 1 % 64))), (5, (.int .i64 2)), (6, (.int .i64 128)), (22, (.bool (decide ((↑(List.length s) : Int) ≤ 1)))), (30, (.bool true)), (38, (.bool false)), (50, (.bool (decide (191 < byteAt s 1)))), (77, (.bool (decide (1114111 < 64 * (byteAt s 0 % 32) + byteAt s 1 % 64))))] Heap.empty [] (by kernel_rfl) rfl .nil ?_
      refine Wl.done 15 rfl ?_
      refine Wc.condP (p := 1114111 < 64 * (byteAt s 0 % 32) + byteAt s 1 % 64) (by kernel_rfl) (by kernel_rfl) (fun c5 => absurd c5 (show ¬ (1114111 < 64 * (byteAt s 0 % 32) + byteAt s 1 % 64) from (by omega))) (fun c5 => ?_)
      refine Wc.skip ?_
      refine Wc.seq ?_
      refine Wc.whole (b := (base 33 80)) [0, 2, 3, 4, 5, 6, 22, 30, 38, 50, 77] [(0, (.str (s))), (2, (.int .i64 2)), (3, (.int .i64 1)), (4, (.int .i64 (64 * (byteAt s 0 % 32) + byteAt s 1 % 64))), (5, (.int .i64 2)), (6, (.int .i64 128)), (22, (.bool (decide ((↑(List.length s) : Int) ≤ 1)))), (30, (.bool true)), (38, (.bool false)), (50, (.bool (decide (191 < byteAt s 1)))), (77, (.bool (decide (1114111 < 64 * (byteAt s 0 % 32) + byteAt s 1 % 64))))] Heap.empty [(((-9223372036854775808 : Int) ≤ (2 : Int)) ∧ ((2 : Int) ≤ (9223372036854775807 : Int)))] (by kernel_rfl) (.cons (by omega) .nil) ?_
      refine Wc.ret ?_
      refine retX.mk (.int .i64 2) ⟨rfl, rfl⟩ (by kernel_rfl) ?_
      have e : one s = 2 := by rw [ho, if_pos (by omega)]
      rw [e]; rfl
theorem c33_2 (s : List UInt8) (hs : s ≠ []) (hl : 2 < s.length) (h : 224 ≤ byteAt s 0 ∧ byteAt s 0 ≤ 239) : Cp Tryd.prog EU 33 [.str s] (.int .i64 ((one s : Nat) : Int)) := by
  have h0 : 0 < s.length := List.length_pos_iff.2 hs
  have hs' : ¬ s = [] := hs
  have hn : moreI (byteAt s 0) = 2 := by
    unfold moreI
    repeat' split
    all_goals omega
  have hc := c39 (byteAt s 0)
  rw [hn] at hc
  have e0 : byteAt s 0 = (atN s 0 : Int) := rfl
  have e1 : byteAt s 1 = (atN s 1 : Int) := rfl
  have e2 : byteAt s 2 = (atN s 2 : Int) := rfl
  have e3 : byteAt s 3 = (atN s 3 : Int) := rfl
  have q0 := atN_lt s 0
  have q1 := atN_lt s 1
  have q2 := atN_lt s 2
  have q3 := atN_lt s 3
  have ho := one_eq hs
  rw [oneG_2 (by omega)] at ho
  simp only [decide_eq_true_eq] at ho
  refine Cp.body (fn := Tryd.f33) Tryd.func33 rfl (by kernel_rfl) ?_
  refine Wc.seq ?_
  refine Wc.whole (b := (base 33 80)) [0, 2] [(0, (.str (s))), (2, (.int .i64 0))] Heap.empty [] (by kernel_rfl) .nil ?_
  refine Wc.seq ?_
  refine Wc.seq ?_
  refine Wc.enter ?_
  refine Wl.batch (b := (base 33 80)) 0 3 [0, 2, 9] [(0, (.str (s))), (2, (.int .i64 0)), (9, (.bool (decide (s = []))))] Heap.empty [] (by kernel_rfl) rfl .nil ?_
  refine Wl.known [(0, (.str (s))), (2, (.int .i64 0)), (9, (.bool false))] (by have e := decide_eq_false (show ¬ (s = []) from hs'); simp only [e] <;> rfl) ?_
  refine Wl.batch (b := (base 33 80)) 3 5 [0, 2, 9, 11] [(0, (.str (s))), (2, (.int .i64 0)), (9, (.bool false)), (11, (.int .u8 (byteAt s 0)))] Heap.empty [(((0 : Int) ≤ (0 : Int)) ∧ ((0 : Int) < (↑(List.length s) : Int)))] (by kernel_rfl) rfl (.cons (by omega) .nil) ?_
  refine Wl.callP (b := (base 33 80)) (h1 := Heap.empty) (h2 := Heap.empty) (v := (.int .i64 2)) (d := (some 12)) 5 [0, 2, 9, 12] [(0, (.str (s))), (2, (.int .i64 0)), (9, (.bool false)), (12, (.int .i64 2))] (@hc) (by kernel_rfl) (by kernel_rfl) (by kernel_rfl) ?_
  refine Wl.batch (b := (base 33 80)) 6 11 [0, 2, 15, 17] [(0, (.str (s))), (2, (.int .i64 0)), (15, (.bool false)), (17, (.int .u8 (byteAt s 0)))] Heap.empty [(((0 : Int) ≤ (0 : Int)) ∧ ((0 : Int) < (↑(List.length s) : Int)))] (by kernel_rfl) rfl (.cons (by omega) .nil) ?_
  refine Wl.callP (b := (base 33 80)) (h1 := Heap.empty) (h2 := Heap.empty) (v := (.int .i64 2)) (d := (some 18)) 11 [0, 2, 15, 18] [(0, (.str (s))), (2, (.int .i64 0)), (15, (.bool false)), (18, (.int .i64 2))] (@hc) (by kernel_rfl) (by kernel_rfl) (by kernel_rfl) ?_
  refine Wl.batch (b := (base 33 80)) 12 16 [0, 2, 22] [(0, (.str (s))), (2, (.int .i64 0)), (22, (.bool (decide ((↑(List.length s) : Int) ≤ 2))))] Heap.empty [] (by kernel_rfl) rfl .nil ?_
  refine Wl.done 16 rfl ?_
  refine Wc.condP (p := (↑(List.length s) : Int) ≤ 2) (by kernel_rfl) (by kernel_rfl) (fun c2 => absurd c2 (show ¬ ((↑(List.length s) : Int) ≤ 2) from (by omega))) (fun c2 => ?_)
  refine Wc.skip ?_
  refine Wc.seq ?_
  refine Wc.enter ?_
  refine Wl.batch (b := (base 33 80)) 0 2 [0, 2, 22, 24] [(0, (.str (s))), (2, (.int .i64 0)), (22, (.bool (decide ((↑(List.length s) : Int) ≤ 2)))), (24, (.int .u8 (byteAt s 0)))] Heap.empty [(((0 : Int) ≤ (0 : Int)) ∧ ((0 : Int) < (↑(List.length s) : Int)))] (by kernel_rfl) rfl (.cons (by omega) .nil) ?_
  refine Wl.callP (b := (base 33 80)) (h1 := Heap.empty) (h2 := Heap.empty) (v := (.int .i64 2)) (d := (some 25)) 2 [0, 2, 22, 25] [(0, (.str (s))), (2, (.int .i64 0)), (22, (.bool (decide ((↑(List.length s) : Int) ≤ 2)))), (25, (.int .i64 2))] (@hc) (by kernel_rfl) (by kernel_rfl) (by kernel_rfl) ?_
  refine Wl.batch (b := (base 33 80)) 3 4 [0, 2, 3, 22] [(0, (.str (s))), (2, (.int .i64 0)), (3, (.int .i64 2)), (22, (.bool (decide ((↑(List.length s) : Int) ≤ 2))))] Heap.empty [] (by kernel_rfl) rfl .nil ?_
  refine Wl.done 4 rfl ?_
  refine Wc.seq ?_
  refine Wc.whole (b := (base 33 80)) [0, 2, 3, 4, 22] [(0, (.str (s))), (2, (.int .i64 0)), (3, (.int .i64 2)), (4, (.int .i64 (byteAt s 0))), (22, (.bool (decide ((↑(List.length s) : Int) ≤ 2))))] Heap.empty [(((0 : Int) ≤ (0 : Int)) ∧ ((0 : Int) < (↑(List.length s) : Int))), (((-9223372036854775808 : Int) ≤ byteAt s (0 : Int)) ∧ (byteAt s (0 : Int) ≤ (9223372036854775807 : Int)))] (by kernel_rfl) (.cons (by omega) (.cons (by omega) .nil)) ?_
  refine Wc.seq ?_
  refine Wc.seq ?_
  refine Wc.whole (b := (base 33 80)) [0, 2, 3, 4, 22, 30] [(0, (.str (s))), (2, (.int .i64 0)), (3, (.int .i64 2)), (4, (.int .i64 (byteAt s 0))), (22, (.bool (decide ((↑(List.length s) : Int) ≤ 2)))), (30, (.bool true))] Heap.empty [] (by kernel_rfl) .nil ?_
  refine Wc.condT (by kernel_rfl) (by kernel_rfl) ?_
  refine Wc.whole (b := (base 33 80)) [0, 2, 3, 4, 22, 30] [(0, (.str (s))), (2, (.int .i64 0)), (3, (.int .i64 2)), (4, (.int .i64 (byteAt s 0 % 16))), (22, (.bool (decide ((↑(List.length s) : Int) ≤ 2)))), (30, (.bool true))] Heap.empty [(((0 : Int) ≤ (2 : Int)) ∧ ((2 : Int) ≤ (18446744073709551615 : Int))), (((0 : Int) ≤ byteAt s (0 : Int)) ∧ ((0 : Int) < (16 : Int)))] (by kernel_rfl) (.cons (by omega) (.cons (by omega) .nil)) ?_
  refine Wc.seq ?_
  refine Wc.seq ?_
  refine Wc.whole (b := (base 33 80)) [0, 2, 3, 4, 5, 22, 30] [(0, (.str (s))), (2, (.int .i64 0)), (3, (.int .i64 2)), (4, (.int .i64 (byteAt s 0 % 16))), (5, (.int .i64 1)), (22, (.bool (decide ((↑(List.length s) : Int) ≤ 2)))), (30, (.bool true))] Heap.empty [] (by kernel_rfl) .nil ?_
  refine Wc.block ?_
  refine Wc.unroll ?_
  refine Wc.seq ?_
  refine Wc.seq ?_
  refine Wc.whole (b := (base 33 80)) [0, 2, 3, 4, 5, 22, 30, 38] [(0, (.str (s))), (2, (.int .i64 0)), (3, (.int .i64 2)), (4, (.int .i64 (byteAt s 0 % 16))), (5, (.int .i64 1)), (22, (.bool (decide ((↑(List.length s) : Int) ≤ 2)))), (30, (.bool true)), (38, (.bool true))] Heap.empty [] (by kernel_rfl) .nil ?_
  refine Wc.condT (by kernel_rfl) (by kernel_rfl) ?_
  refine Wc.skip ?_
  refine Wc.seq ?_
  refine Wc.block ?_
  refine Wc.seq ?_
  refine Wc.seq ?_
  refine Wc.enter ?_
  refine Wl.batch (b := (base 33 80)) 0 5 [0, 2, 3, 4, 5, 22, 30, 38, 45] [(0, (.str (s))), (2, (.int .i64 0)), (3, (.int .i64 2)), (4, (.int .i64 (byteAt s 0 % 16))), (5, (.int .i64 1)), (22, (.bool (decide ((↑(List.length s) : Int) ≤ 2)))), (30, (.bool true)), (38, (.bool true)), (45, (.bool (decide (byteAt s 1 < 128))))] Heap.empty [(((0 : Int) ≤ (1 : Int)) ∧ ((1 : Int) < (↑(List.length s) : Int)))] (by kernel_rfl) rfl (.cons (by omega) .nil) ?_
  by_cases ga2 : byteAt s 1 < 128
  · refine Wl.known [(0, (.str (s))), (2, (.int .i64 0)), (3, (.int .i64 2)), (4, (.int .i64 (byteAt s 0 % 16))), (5, (.int .i64 1)), (22, (.bool (decide ((↑(List.length s) : Int) ≤ 2)))), (30, (.bool true)), (38, (.bool true)), (45, (.bool true))] (by have e := decide_eq_true (show byteAt s 1 < 128 from ga2); simp only [e] <;> rfl) ?_
    refine Wl.batch (b := (base 33 80)) 5 10 [0, 2, 3, 4, 5, 22, 30, 38, 50] [(0, (.str (s))), (2, (.int .i64 0)), (3, (.int .i64 2)), (4, (.int .i64 (byteAt s 0 % 16))), (5, (.int .i64 1)), (22, (.bool (decide ((↑(List.length s) : Int) ≤ 2)))), (30, (.bool true)), (38, (.bool true)), (50, (.bool true))] Heap.empty [] (by kernel_rfl) rfl .nil ?_
    refine Wl.done 10 rfl ?_
    refine Wc.condT (by kernel_rfl) (by kernel_rfl) ?_
    refine Wc.seq ?_
    refine Wc.whole (b := (base 33 80)) [0, 2, 3, 4, 5, 22, 30, 38, 50] [(0, (.str (s))), (2, (.int .i64 0)), (3, (.int .i64 2)), (4, (.int .i64 (byteAt s 0 % 16))), (5, (.int .i64 1)), (22, (.bool (decide ((↑(List.length s) : Int) ≤ 2)))), (30, (.bool true)), (38, (.bool true)), (50, (.bool true))] Heap.empty [] (by kernel_rfl) .nil ?_
    refine Wc.ret ?_
    refine blockX.ret ?_
    refine blockX.ret ?_
    refine retX.mk (.int .i64 0) ⟨rfl, rfl⟩ (by kernel_rfl) ?_
    have e : one s = 0 := by rw [ho, if_neg (by omega)]
    rw [e]; rfl
  · refine Wl.known [(0, (.str (s))), (2, (.int .i64 0)), (3, (.int .i64 2)), (4, (.int .i64 (byteAt s 0 % 16))), (5, (.int .i64 1)), (22, (.bool (decide ((↑(List.length s) : Int) ≤ 2)))), (30, (.bool true)), (38, (.bool true)), (45, (.bool false))] (by have e := decide_eq_false (show ¬ (byteAt s 1 < 128) from ga2); simp only [e] <;> rfl) ?_
    refine Wl.batch (b := (base 33 80)) 5 10 [0, 2, 3, 4, 5, 22, 30, 38, 50] [(0, (.str (s))), (2, (.int .i64 0)), (3, (.int .i64 2)), (4, (.int .i64 (byteAt s 0 % 16))), (5, (.int .i64 1)), (22, (.bool (decide ((↑(List.length s) : Int) ≤ 2)))), (30, (.bool true)), (38, (.bool true)), (50, (.bool (decide (191 < byteAt s 1))))] Heap.empty [(((0 : Int) ≤ (1 : Int)) ∧ ((1 : Int) < (↑(List.length s) : Int)))] (by kernel_rfl) rfl (.cons (by omega) .nil) ?_
    refine Wl.done 10 rfl ?_
    refine Wc.condP (p := 191 < byteAt s 1) (by kernel_rfl) (by kernel_rfl) (fun c2 => ?_) (fun c2 => ?_)
    · refine Wc.seq ?_
      refine Wc.whole (b := (base 33 80)) [0, 2, 3, 4, 5, 22, 30, 38, 50] [(0, (.str (s))), (2, (.int .i64 0)), (3, (.int .i64 2)), (4, (.int .i64 (byteAt s 0 % 16))), (5, (.int .i64 1)), (22, (.bool (decide ((↑(List.length s) : Int) ≤ 2)))), (30, (.bool true)), (38, (.bool true)), (50, (.bool (decide (191 < byteAt s 1))))] Heap.empty [] (by kernel_rfl) .nil ?_
      refine Wc.ret ?_
      refine blockX.ret ?_
      refine blockX.ret ?_
      refine retX.mk (.int .i64 0) ⟨rfl, rfl⟩ (by kernel_rfl) ?_
      have e : one s = 0 := by rw [ho, if_neg (by omega)]
      rw [e]; rfl
    · refine Wc.skip ?_
      refine Wc.whole (b := (base 33 80)) [0, 2, 3, 4, 5, 22, 30, 38, 50] [(0, (.str (s))), (2, (.int .i64 0)), (3, (.int .i64 2)), (4, (.int .i64 (64 * (byteAt s 0 % 16) + byteAt s 1 % 64))), (5, (.int .i64 1)), (22, (.bool (decide ((↑(List.length s) : Int) ≤ 2)))), (30, (.bool true)), (38, (.bool true)), (50, (.bool (decide (191 < byteAt s 1))))] Heap.empty [(((-9223372036854775808 : Int) ≤ (64 : Int) * (byteAt s (0 : Int) % (16 : Int))) ∧ ((64 : Int) * (byteAt s (0 : Int) % (16 : Int)) ≤ (9223372036854775807 : Int))), (((0 : Int) ≤ (1 : Int)) ∧ ((1 : Int) < (↑(List.length s) : Int))), (((0 : Int) ≤ byteAt s (1 : Int)) ∧ ((0 : Int) < (64 : Int))), (((-9223372036854775808 : Int) ≤ byteAt s (1 : Int) % (64 : Int)) ∧ (byteAt s (1 : Int) % (64 : Int) ≤ (9223372036854775807 : Int))), (((-9223372036854775808 : Int) ≤ (64 : Int) * (byteAt s (0 : Int) % (16 : Int)) + byteAt s (1 : Int) % (64 : Int)) ∧ ((64 : Int) * (byteAt s (0 : Int) % (16 : Int)) + byteAt s (1 : Int) % (64 : Int) ≤ (9223372036854775807 : Int)))] (by kernel_rfl) (.cons (by omega) (.cons (by omega) (.cons (by omega) (.cons (by omega) (.cons (by omega) .nil))))) ?_
      refine Wc.whole (b := (base 33 80)) [0, 2, 3, 4, 5, 22, 30, 38, 50] [(0, (.str (s))), (2, (.int .i64 0)), (3, (.int .i64 2)), (4, (.int .i64 (64 * (byteAt s 0 % 16) + byteAt s 1 % 64))), (5, (.int .i64 2)), (22, (.bool (decide ((↑(List.length s) : Int) ≤ 2)))), (30, (.bool true)), (38, (.bool true)), (50, (.bool (decide (191 < byteAt s 1))))] Heap.empty [(((-9223372036854775808 : Int) ≤ (2 : Int)) ∧ ((2 : Int) ≤ (9223372036854775807 : Int)))] (by kernel_rfl) (.cons (by omega) .nil) ?_
      refine Wc.unroll ?_
      refine Wc.seq ?_
      refine Wc.seq ?_
      refine Wc.whole (b := (base 33 80)) [0, 2, 3, 4, 5, 22, 30, 38, 50] [(0, (.str (s))), (2, (.int .i64 0)), (3, (.int .i64 2)), (4, (.int .i64 (64 * (byteAt s 0 % 16) + byteAt s 1 % 64))), (5, (.int .i64 2)), (22, (.bool (decide ((↑(List.length s) : Int) ≤ 2)))), (30, (.bool true)), (38, (.bool true)), (50, (.bool (decide (191 < byteAt s 1))))] Heap.empty [] (by kernel_rfl) .nil ?_
      refine Wc.condT (by kernel_rfl) (by kernel_rfl) ?_
      refine Wc.skip ?_
      refine Wc.seq ?_
      refine Wc.block ?_
      refine Wc.seq ?_
      refine Wc.seq ?_
      refine Wc.enter ?_
      refine Wl.batch (b := (base 33 80)) 0 5 [0, 2, 3, 4, 5, 22, 30, 38, 45, 50] [(0, (.str (s))), (2, (.int .i64 0)), (3, (.int .i64 2)), (4, (.int .i64 (64 * (byteAt s 0 % 16) + byteAt s 1 % 64))), (5, (.int .i64 2)), (22, (.bool (decide ((↑(List.length s) : Int) ≤ 2)))), (30, (.bool true)), (38, (.bool true)), (45, (.bool (decide (byteAt s 2 < 128)))), (50, (.bool (decide (191 < byteAt s 1))))] Heap.empty [(((0 : Int) ≤ (2 : Int)) ∧ ((2 : Int) < (↑(List.length s) : Int)))] (by kernel_rfl) rfl (.cons (by omega) .nil) ?_
      by_cases gb5 : byteAt s 2 < 128
      · refine Wl.known [(0, (.str (s))), (2, (.int .i64 0)), (3, (.int .i64 2)), (4, (.int .i64 (64 * (byteAt s 0 % 16) + byteAt s 1 % 64))), (5, (.int .i64 2)), (22, (.bool (decide ((↑(List.length s) : Int) ≤ 2)))), (30, (.bool true)), (38, (.bool true)), (45, (.bool true)), (50, (.bool (decide (191 < byteAt s 1))))] (by have e := decide_eq_true (show byteAt s 2 < 128 from gb5); simp only [e] <;> rfl) ?_
        refine Wl.batch (b := (base 33 80)) 5 10 [0, 2, 3, 4, 5, 22, 30, 38, 50] [(0, (.str (s))), (2, (.int .i64 0)), (3, (.int .i64 2)), (4, (.int .i64 (64 * (byteAt s 0 % 16) + byteAt s 1 % 64))), (5, (.int .i64 2)), (22, (.bool (decide ((↑(List.length s) : Int) ≤ 2)))), (30, (.bool true)), (38, (.bool true)), (50, (.bool true))] Heap.empty [] (by kernel_rfl) rfl .nil ?_
        refine Wl.done 10 rfl ?_
        refine Wc.condT (by kernel_rfl) (by kernel_rfl) ?_
        refine Wc.seq ?_
        refine Wc.whole (b := (base 33 80)) [0, 2, 3, 4, 5, 22, 30, 38, 50] [(0, (.str (s))), (2, (.int .i64 0)), (3, (.int .i64 2)), (4, (.int .i64 (64 * (byteAt s 0 % 16) + byteAt s 1 % 64))), (5, (.int .i64 2)), (22, (.bool (decide ((↑(List.length s) : Int) ≤ 2)))), (30, (.bool true)), (38, (.bool true)), (50, (.bool true))] Heap.empty [] (by kernel_rfl) .nil ?_
        refine Wc.ret ?_
        refine blockX.ret ?_
        refine blockX.ret ?_
        refine retX.mk (.int .i64 0) ⟨rfl, rfl⟩ (by kernel_rfl) ?_
        have e : one s = 0 := by rw [ho, if_neg (by omega)]
        rw [e]; rfl
      · refine Wl.known [(0, (.str (s))), (2, (.int .i64 0)), (3, (.int .i64 2)), (4, (.int .i64 (64 * (byteAt s 0 % 16) + byteAt s 1 % 64))), (5, (.int .i64 2)), (22, (.bool (decide ((↑(List.length s) : Int) ≤ 2)))), (30, (.bool true)), (38, (.bool true)), (45, (.bool false)), (50, (.bool (decide (191 < byteAt s 1))))] (by have e := decide_eq_false (show ¬ (byteAt s 2 < 128) from gb5); simp only [e] <;> rfl) ?_
        refine Wl.batch (b := (base 33 80)) 5 10 [0, 2, 3, 4, 5, 22, 30, 38, 50] [(0, (.str (s))), (2, (.int .i64 0)), (3, (.int .i64 2)), (4, (.int .i64 (64 * (byteAt s 0 % 16) + byteAt s 1 % 64))), (5, (.int .i64 2)), (22, (.bool (decide ((↑(List.length s) : Int) ≤ 2)))), (30, (.bool true)), (38, (.bool true)), (50, (.bool (decide (191 < byteAt s 2))))] Heap.empty [(((0 : Int) ≤ (2 : Int)) ∧ ((2 : Int) < (↑(List.length s) : Int)))] (by kernel_rfl) rfl (.cons (by omega) .nil) ?_
        refine Wl.done 10 rfl ?_
        refine Wc.condP (p := 191 < byteAt s 2) (by kernel_rfl) (by kernel_rfl) (fun c2 => ?_) (fun c2 => ?_)
        · refine Wc.seq ?_
          refine Wc.whole (b := (base 33 80)) [0, 2, 3, 4, 5, 22, 30, 38, 50] [(0, (.str (s))), (2, (.int .i64 0)), (3, (.int .i64 2)), (4, (.int .i64 (64 * (byteAt s 0 % 16) + byteAt s 1 % 64))), (5, (.int .i64 2)), (22, (.bool (decide ((↑(List.length s) : Int) ≤ 2)))), (30, (.bool true)), (38, (.bool true)), (50, (.bool (decide (191 < byteAt s 2))))] Heap.empty [] (by kernel_rfl) .nil ?_
          refine Wc.ret ?_
          refine blockX.ret ?_
          refine blockX.ret ?_
          refine retX.mk (.int .i64 0) ⟨rfl, rfl⟩ (by kernel_rfl) ?_
          have e : one s = 0 := by rw [ho, if_neg (by omega)]
          rw [e]; rfl
        · refine Wc.skip ?_
          refine Wc.whole (b := (base 33 80)) [0, 2, 3, 4, 5, 22, 30, 38, 50] [(0, (.str (s))), (2, (.int .i64 0)), (3, (.int .i64 2)), (4, (.int .i64 (64 * (64 * (byteAt s 0 % 16) + byteAt s 1 % 64) + byteAt s 2 % 64))), (5, (.int .i64 2)), (22, (.bool (decide ((↑(List.length s) : Int) ≤ 2)))), (30, (.bool true)), (38, (.bool true)), (50, (.bool (decide (191 < byteAt s 2))))] Heap.empty [(((-9223372036854775808 : Int) ≤ (64 : Int) * ((64 : Int) * (byteAt s (0 : Int) % (16 : Int)) + byteAt s (1 : Int) % (64 : Int))) ∧ ((64 : Int) * ((64 : Int) * (byteAt s (0 : Int) % (16 : Int)) + byteAt s (1 : Int) % (64 : Int)) ≤ (9223372036854775807 : Int))), (((0 : Int) ≤ (2 : Int)) ∧ ((2 : Int) < (↑(List.length s) : Int))), (((0 : Int) ≤ byteAt s (2 : Int)) ∧ ((0 : Int) < (64 : Int))), (((-9223372036854775808 : Int) ≤ byteAt s (2 : Int) % (64 : Int)) ∧ (byteAt s (2 : Int) % (64 : Int) ≤ (9223372036854775807 : Int))), (((-9223372036854775808 : Int) ≤ (64 : Int) * ((64 : Int) * (byteAt s (0 : Int) % (16 : Int)) + byteAt s (1 : Int) % (64 : Int)) + byteAt s (2 : Int) % (64 : Int)) ∧ ((64 : Int) * ((64 : Int) * (byteAt s (0 : Int) % (16 : Int)) + byteAt s (1 : Int) % (64 : Int)) + byteAt s (2 : Int) % (64 : Int) ≤ (9223372036854775807 : Int)))] (by kernel_rfl) (.cons (by omega) (.cons (by omega) (.cons (by omega) (.cons (by omega) (.cons (by omega) .nil))))) ?_
          refine Wc.whole (b := (base 33 80)) [0, 2, 3, 4, 5, 22, 30, 38, 50] [(0, (.str (s))), (2, (.int .i64 0)), (3, (.int .i64 2)), (4, (.int .i64 (64 * (64 * (byteAt s 0 % 16) + byteAt s 1 % 64) + byteAt s 2 % 64))), (5, (.int .i64 3)), (22, (.bool (decide ((↑(List.length s) : Int) ≤ 2)))), (30, (.bool true)), (38, (.bool true)), (50, (.bool (decide (191 < byteAt s 2))))] Heap.empty [(((-9223372036854775808 : Int) ≤ (3 : Int)) ∧ ((3 : Int) ≤ (9223372036854775807 : Int)))] (by kernel_rfl) (.cons (by omega) .nil) ?_
          refine Wc.unroll ?_
          refine Wc.seq ?_
          refine Wc.seq ?_
          refine Wc.whole (b := (base 33 80)) [0, 2, 3, 4, 5, 22, 30, 38, 50] [(0, (.str (s))), (2, (.int .i64 0)), (3, (.int .i64 2)), (4, (.int .i64 (64 * (64 * (byteAt s 0 % 16) + byteAt s 1 % 64) + byteAt s 2 % 64))), (5, (.int .i64 3)), (22, (.bool (decide ((↑(List.length s) : Int) ≤ 2)))), (30, (.bool true)), (38, (.bool false)), (50, (.bool (decide (191 < byteAt s 2))))] Heap.empty [] (by kernel_rfl) .nil ?_
          refine Wc.condF (by kernel_rfl) (by kernel_rfl) ?_
          refine Wc.exit ?_
          refine blockX.here ?_
          refine Wc.seq ?_
          refine Wc.whole (b := (base 33 80)) [0, 2, 3, 4, 5, 6, 22, 30, 38, 50] [(0, (.str (s))), (2, (.int .i64 0)), (3, (.int .i64 2)), (4, (.int .i64 (64 * (64 * (byteAt s 0 % 16) + byteAt s 1 % 64) + byteAt s 2 % 64))), (5, (.int .i64 3)), (6, (.int .i64 2048)), (22, (.bool (decide ((↑(List.length s) : Int) ≤ 2)))), (30, (.bool true)), (38, (.bool false)), (50, (.bool (decide (191 < byteAt s 2))))] Heap.empty [(((0 : Int) ≤ (2 : Int)) ∧ ((2 : Int) < (4 : Int)))] (by kernel_rfl) (.cons (by omega) .nil) ?_
          refine Wc.seq ?_
          refine Wc.seq ?_
          refine Wc.enter ?_
          refine Wl.batch (b := (base 33 80)) 0 4 [0, 2, 3, 4, 5, 6, 22, 30, 38, 50, 66] [(0, (.str (s))), (2, (.int .i64 0)), (3, (.int .i64 2)), (4, (.int .i64 (64 * (64 * (byteAt s 0 % 16) + byteAt s 1 % 64) + byteAt s 2 % 64))), (5, (.int .i64 3)), (6, (.int .i64 2048)), (22, (.bool (decide ((↑(List.length s) : Int) ≤ 2)))), (30, (.bool true)), (38, (.bool false)), (50, (.bool (decide (191 < byteAt s 2)))), (66, (.bool (decide (64 * (64 * (byteAt s 0 % 16) + byteAt s 1 % 64) + byteAt s 2 % 64 < 2048))))] Heap.empty [] (by kernel_rfl) rfl .nil ?_
          by_cases gc5 : 64 * (64 * (byteAt s 0 % 16) + byteAt s 1 % 64) + byteAt s 2 % 64 < 2048
          · refine Wl.known [(0, (.str (s))), (2, (.int .i64 0)), (3, (.int .i64 2)), (4, (.int .i64 (64 * (64 * (byteAt s 0 % 16) + byteAt s 1 % 64) + byteAt s 2 % 64))), (5, (.int .i64 3)), (6, (.int .i64 2048)), (22, (.bool (decide ((↑(List.length s) : Int) ≤ 2)))), (30, (.bool true)), (38, (.bool false)), (50, (.bool (decide (191 < byteAt s 2)))), (66, (.bool true))] (by have e := decide_eq_true (show 64 * (64 * (byteAt s 0 % 16) + byteAt s 1 % 64) + byteAt s 2 % 64 < 2048 from gc5); simp only [e] <;> rfl) ?_
            refine Wl.batch (b := (base 33 80)) 4 15 [0, 2, 3, 4, 5, 6, 22, 30, 38, 50, 77] [(0, (.str (s))), (2, (.int .i64 0)), (3, (.int .i64 2)), (4, (.int .i64 (64 * (64 * (byteAt s 0 % 16) + byteAt s 1 % 64) + byteAt s 2 % 64))), (5, (.int .i64 3)), (6, (.int .i64 2048)), (22, (.bool (decide ((↑(List.length s) : Int) ≤ 2)))), (30, (.bool true)), (38, (.bool false)), (50, (.bool (decide (191 < byteAt s 2)))), (77, (.bool true))] Heap.empty [] (by kernel_rfl) rfl .nil ?_
            refine Wl.done 15 rfl ?_
            refine Wc.condT (by kernel_rfl) (by kernel_rfl) ?_
            refine Wc.seq ?_
            refine Wc.whole (b := (base 33 80)) [0, 2, 3, 4, 5, 6, 22, 30, 38, 50, 77] [(0, (.str (s))), (2, (.int .i64 0)), (3, (.int .i64 2)), (4, (.int .i64 (64 * (64 * (byteAt s 0 % 16) + byteAt s 1 % 64) + byteAt s 2 % 64))), (5, (.int .i64 3)), (6, (.int .i64 2048)), (22, (.bool (decide ((↑(List.length s) : Int) ≤ 2)))), (30, (.bool true)), (38, (.bool false)), (50, (.bool (decide (191 < byteAt s 2)))), (77, (.bool true))] Heap.empty [] (by kernel_rfl) .nil ?_
            refine Wc.ret ?_
            refine retX.mk (.int .i64 0) ⟨rfl, rfl⟩ (by kernel_rfl) ?_
            have e : one s = 0 := by rw [ho, if_neg (by omega)]
            rw [e]; rfl
          · refine Wl.known [(0, (.str (s))), (2, (.int .i64 0)), (3, (.int .i64 2)), (4, (.int .i64 (64 * (64 * (byteAt s 0 % 16) + byteAt s 1 % 64) + byteAt s 2 % 64))), (5, (.int .i64 3)), (6, (.int .i64 2048)), (22, (.bool (decide ((↑(List.length s) : Int) ≤ 2)))), (30, (.bool true)), (38, (.bool false)), (50, (.bool (decide (191 < byteAt s 2)))), (66, (.bool false))] (by have e := decide_eq_false (show ¬ (64 * (64 * (byteAt s 0 % 16) + byteAt s 1 % 64) + byteAt s 2 % 64 < 2048) from gc5); simp only [e] <;> rfl) ?_
            refine Wl.batch (b := (base 33 80)) 4 7 [0, 2, 3, 4, 5, 6, 22, 30, 38, 50, 66, 69] [(0, (.str (s))), (2, (.int .i64 0)), (3, (.int .i64 2)), (4, (.int .i64 (64 * (64 * (byteAt s 0 % 16) + byteAt s 1 % 64) + byteAt s 2 % 64))), (5, (.int .i64 3)), (6, (.int .i64 2048)), (22, (.bool (decide ((↑(List.length s) : Int) ≤ 2)))), (30, (.bool true)), (38, (.bool false)), (50, (.bool (decide (191 < byteAt s 2)))), (66, (.bool false)), (69, (.bool (decide (55296 ≤ 64 * (64 * (byteAt s 0 % 16) + byteAt s 1 % 64) + byteAt s 2 % 64))))] Heap.empty [] (by kernel_rfl) rfl .nil ?_
            by_cases gd4 : 55296 ≤ 64 * (64 * (byteAt s 0 % 16) + byteAt s 1 % 64) + byteAt s 2 % 64
            · refine Wl.known [(0, (.str (s))), (2, (.int .i64 0)), (3, (.int .i64 2)), (4, (.int .i64 (64 * (64 * (byteAt s 0 % 16) + byteAt s 1 % 64) + byteAt s 2 % 64))), (5, (.int .i64 3)), (6, (.int .i64 2048)), (22, (.bool (decide ((↑(List.length s) : Int) ≤ 2)))), (30, (.bool true)), (38, (.bool false)), (50, (.bool (decide (191 < byteAt s 2)))), (66, (.bool false)), (69, (.bool true))] (by have e := decide_eq_true (show 55296 ≤ 64 * (64 * (byteAt s 0 % 16) + byteAt s 1 % 64) + byteAt s 2 % 64 from gd4); simp only [e] <;> rfl) ?_
              refine Wl.batch (b := (base 33 80)) 7 12 [0, 2, 3, 4, 5, 6, 22, 30, 38, 50, 74] [(0, (.str (s))), (2, (.int .i64 0)), (3, (.int .i64 2)), (4, (.int .i64 (64 * (64 * (byteAt s 0 % 16) + byteAt s 1 % 64) + byteAt s 2 % 64))), (5, (.int .i64 3)), (6, (.int .i64 2048)), (22, (.bool (decide ((↑(List.length s) : Int) ≤ 2)))), (30, (.bool true)), (38, (.bool false)), (50, (.bool (decide (191 < byteAt s 2)))), (74, (.bool (decide (64 * (64 * (byteAt s 0 % 16) + byteAt s 1 % 64) + byteAt s 2 % 64 ≤ 57343))))] Heap.empty [] (by kernel_rfl) rfl .nil ?_
              by_cases ge5 : 64 * (64 * (byteAt s 0 % 16) + byteAt s 1 % 64) + byteAt s 2 % 64 ≤ 57343
              · refine Wl.known [(0, (.str (s))), (2, (.int .i64 0)), (3, (.int .i64 2)), (4, (.int .i64 (64 * (64 * (byteAt s 0 % 16) + byteAt s 1 % 64) + byteAt s 2 % 64))), (5, (.int .i64 3)), (6, (.int .i64 2048)), (22, (.bool (decide ((↑(List.length s) : Int) ≤ 2)))), (30, (.bool true)), (38, (.bool false)), (50, (.bool (decide (191 < byteAt s 2)))), (74, (.bool true))] (by have e := decide_eq_true (show 64 * (64 * (byteAt s 0 % 16) + byteAt s 1 % 64) + byteAt s 2 % 64 ≤ 57343 from ge5); simp only [e] <;> rfl) ?_
                refine Wl.batch (b := (base 33 80)) 12 15 [0, 2, 3, 4, 5, 6, 22, 30, 38, 50, 77] [(0, (.str (s))), (2, (.int .i64 0)), (3, (.int .i64 2)), (4, (.int .i64 (64 * (64 * (byteAt s 0 % 16) + byteAt s 1 % 64) + byteAt s 2 % 64))), (5, (.int .i64 3)), (6, (.int .i64 2048)), (22, (.bool (decide ((↑(List.length s) : Int) ≤ 2)))), (30, (.bool true)), (38, (.bool false)), (50, (.bool (decide (191 < byteAt s 2)))), (77, (.bool true))] Heap.empty [] (by kernel_rfl) rfl .nil ?_
                refine Wl.done 15 rfl ?_
                refine Wc.condT (by kernel_rfl) (by kernel_rfl) ?_
                refine Wc.seq ?_
                refine Wc.whole (b := (base 33 80)) [0, 2, 3, 4, 5, 6, 22, 30, 38, 50, 77] [(0, (.str (s))), (2, (.int .i64 0)), (3, (.int .i64 2)), (4, (.int .i64 (64 * (64 * (byteAt s 0 % 16) + byteAt s 1 % 64) + byteAt s 2 % 64))), (5, (.int .i64 3)), (6, (.int .i64 2048)), (22, (.bool (decide ((↑(List.length s) : Int) ≤ 2)))), (30, (.bool true)), (38, (.bool false)), (50, (.bool (decide (191 < byteAt s 2)))), (77, (.bool true))] Heap.empty [] (by kernel_rfl) .nil ?_
                refine Wc.ret ?_
                refine retX.mk (.int .i64 0) ⟨rfl, rfl⟩ (by kernel_rfl) ?_
                have e : one s = 0 := by rw [ho, if_neg (by omega)]
                rw [e]; rfl
              · refine Wl.known [(0, (.str (s))), (2, (.int .i64 0)), (3, (.int .i64 2)), (4, (.int .i64 (64 * (64 * (byteAt s 0 % 16) + byteAt s 1 % 64) + byteAt s 2 % 64))), (5, (.int .i64 3)), (6, (.int .i64 2048)), (22, (.bool (decide ((↑(List.length s) : Int) ≤ 2)))), (30, (.bool true)), (38, (.bool false)), (50, (.bool (decide (191 < byteAt s 2)))), (74, (.bool false))] (by have e := decide_eq_false (show ¬ (64 * (64 * (byteAt s 0 % 16) + byteAt s 1 % 64) + byteAt s 2 % 64 ≤ 57343) from ge5); simp only [e] <;> rfl) ?_
                refine Wl.batch (b := (base 33 80)) 12 15 [0, 2, 3, 4, 5, 6, 22, 30, 38, 50, 77] [(0, (.str (s))), (2, (.int .i64 0)), (3, (.int .i64 2)), (4, (.int .i64 (64 * (64 * (byteAt s 0 % 16) + byteAt s 1 % 64) + byteAt s 2 % 64))), (5, (.int .i64 3)), (6, (.int .i64 2048)), (22, (.bool (decide ((↑(List.length s) : Int) ≤ 2)))), (30, (.bool true)), (38, (.bool false)), (50, (.bool (decide (191 < byteAt s 2)))), (77, (.bool (decide (1114111 < 64 * (64 * (byteAt s 0 % 16) + byteAt s 1 % 64) + byteAt s 2 % 64))))] Heap.empty [] (by kernel_rfl) rfl .nil ?_
                refine Wl.done 15 rfl ?_
                refine Wc.condP (p := 1114111 < 64 * (64 * (byteAt s 0 % 16) + byteAt s 1 % 64) + byteAt s 2 % 64) (by kernel_rfl) (by kernel_rfl) (fun c2 => absurd c2 (show ¬ (1114111 < 64 * (64 * (byteAt s 0 % 16) + byteAt s 1 % 64) + byteAt s 2 % 64) from (by omega))) (fun c2 => ?_)
                refine Wc.skip ?_
                refine Wc.seq ?_
                refine Wc.whole (b := (base 33 80)) [0, 2, 3, 4, 5, 6, 22, 30, 38, 50, 77] [(0, (.str (s))), (2, (.int .i64 3)), (3, (.int .i64 2)), (4, (.int .i64 (64 * (64 * (byteAt s 0 % 16) + byteAt s 1 % 64) + byteAt s 2 % 64))), (5, (.int .i64 3)), (6, (.int .i64 2048)), (22, (.bool (decide ((↑(List.length s) : Int) ≤ 2)))), (30, (.bool true)), (38, (.bool false)), (50, (.bool (decide (191 < byteAt s 2)))), (77, (.bool (decide (1114111 < 64 * (64 * (byteAt s 0 % 16) + byteAt s 1 % 64) + byteAt s 2 % 64))))] Heap.empty [(((-9223372036854775808 : Int) ≤ (3 : Int)) ∧ ((3 : Int) ≤ (9223372036854775807 : Int)))] (by kernel_rfl) (.cons (by omega) .nil) ?_
                refine Wc.ret ?_
                refine retX.mk (.int .i64 3) ⟨rfl, rfl⟩ (by kernel_rfl) ?_
                have e : one s = 3 := by rw [ho, if_pos (by omega)]
                rw [e]; rfl
            · refine Wl.known [(0, (.str (s))), (2, (.int .i64 0)), (3, (.int .i64 2)), (4, (.int .i64 (64 * (64 * (byteAt s 0 % 16) + byteAt s 1 % 64) + byteAt s 2 % 64))), (5, (.int .i64 3)), (6, (.int .i64 2048)), (22, (.bool (decide ((↑(List.length s) : Int) ≤ 2)))), (30, (.bool true)), (38, (.bool false)), (50, (.bool (decide (191 < byteAt s 2)))), (66, (.bool false)), (69, (.bool false))] (by have e := decide_eq_false (show ¬ (55296 ≤ 64 * (64 * (byteAt s 0 % 16) + byteAt s 1 % 64) + byteAt s 2 % 64) from gd4); simp only [e] <;> rfl) ?_
              refine Wl.batch (b := (base 33 80)) 7 15 [0, 2, 3, 4, 5, 6, 22, 30, 38, 50, 77] [(0, (.str (s))), (2, (.int .i64 0)), (3, (.int .i64 2)), (4, (.int .i64 (64 * (64 * (byteAt s 0 % 16) + byteAt s 1 % 64) + byteAt s 2 % 64))), (5, (.int .i64 3)), (6, (.int .i64 2048)), (22, (.bool (decide ((↑(List.length s) : Int) ≤ 2)))), (30, (.bool true)), (38, (.bool false)), (50, (.bool (decide (191 < byteAt s 2)))), (77, (.bool (decide (1114111 < 64 * (64 * (byteAt s 0 % 16) + byteAt s 1 % 64) + byteAt s 2 % 64))))] Heap.empty [] (by kernel_rfl) rfl .nil ?_
              refine Wl.done 15 rfl ?_
              refine Wc.condP (p := 1114111 < 64 * (64 * (byteAt s 0 % 16) + byteAt s 1 % 64) + byteAt s 2 % 64) (by kernel_rfl) (by kernel_rfl) (fun c2 => absurd c2 (show ¬ (1114111 < 64 * (64 * (byteAt s 0 % 16) + byteAt s 1 % 64) + byteAt s 2 % 64) from (by omega))) (fun c2 => ?_)
              refine Wc.skip ?_
              refine Wc.seq ?_
              refine Wc.whole (b := (base 33 80)) [0, 2, 3, 4, 5, 6, 22, 30, 38, 50, 77] [(0, (.str (s))), (2, (.int .i64 3)), (3, (.int .i64 2)), (4, (.int .i64 (64 * (64 * (byteAt s 0 % 16) + byteAt s 1 % 64) + byteAt s 2 % 64))), (5, (.int .i64 3)), (6, (.int .i64 2048)), (22, (.bool (decide ((↑(List.length s) : Int) ≤ 2)))), (30, (.bool true)), (38, (.bool false)), (50, (.bool (decide (191 < byteAt s 2)))), (77, (.bool (decide (1114111 < 64 * (64 * (byteAt s 0 % 16) + byteAt s 1 % 64) + byteAt s 2 % 64))))] Heap.empty [(((-9223372036854775808 : Int) ≤ (3 : Int)) ∧ ((3 : Int) ≤ (9223372036854775807 : Int)))] (by kernel_rfl) (.cons (by omega) .nil) ?_
              refine Wc.ret ?_
              refine retX.mk (.int .i64 3) ⟨rfl, rfl⟩ (by kernel_rfl) ?_
              have e : one s = 3 := by rw [ho, if_pos (by omega)]
              rw [e]; rfl
theorem c33_3 (s : List UInt8) (hs : s ≠ []) (hl : 3 < s.length) (h : 240 ≤ byteAt s 0 ∧ byteAt s 0 ≤ 244) : Cp Tryd.prog EU 33 [.str s] (.int .i64 ((one s : Nat) : Int)) := by
  have h0 : 0 < s.length := List.length_pos_iff.2 hs
  have hs' : ¬ s = [] := hs
  have hn : moreI (byteAt s 0) = 3 := by
    unfold moreI
    repeat' split
    all_goals omega
  have hc := c39 (byteAt s 0)
  rw [hn] at hc
  have e0 : byteAt s 0 = (atN s 0 : Int) := rfl
  have e1 : byteAt s 1 = (atN s 1 : Int) := rfl
  have e2 : byteAt s 2 = (atN s 2 : Int) := rfl
  have e3 : byteAt s 3 = (atN s 3 : Int) := rfl
  have q0 := atN_lt s 0
  have q1 := atN_lt s 1
  have q2 := atN_lt s 2
  have q3 := atN_lt s 3
  have ho := one_eq hs
  rw [oneG_3 (by omega)] at ho
  simp only [decide_eq_true_eq] at ho
  refine Cp.body (fn := Tryd.f33) Tryd.func33 rfl (by kernel_rfl) ?_
  refine Wc.seq ?_
  refine Wc.whole (b := (base 33 80)) [0, 2] [(0, (.str (s))), (2, (.int .i64 0))] Heap.empty [] (by kernel_rfl) .nil ?_
  refine Wc.seq ?_
  refine Wc.seq ?_
  refine Wc.enter ?_
  refine Wl.batch (b := (base 33 80)) 0 3 [0, 2, 9] [(0, (.str (s))), (2, (.int .i64 0)), (9, (.bool (decide (s = []))))] Heap.empty [] (by kernel_rfl) rfl .nil ?_
  refine Wl.known [(0, (.str (s))), (2, (.int .i64 0)), (9, (.bool false))] (by have e := decide_eq_false (show ¬ (s = []) from hs'); simp only [e] <;> rfl) ?_
  refine Wl.batch (b := (base 33 80)) 3 5 [0, 2, 9, 11] [(0, (.str (s))), (2, (.int .i64 0)), (9, (.bool false)), (11, (.int .u8 (byteAt s 0)))] Heap.empty [(((0 : Int) ≤ (0 : Int)) ∧ ((0 : Int) < (↑(List.length s) : Int)))] (by kernel_rfl) rfl (.cons (by omega) .nil) ?_
  refine Wl.callP (b := (base 33 80)) (h1 := Heap.empty) (h2 := Heap.empty) (v := (.int .i64 3)) (d := (some 12)) 5 [0, 2, 9, 12] [(0, (.str (s))), (2, (.int .i64 0)), (9, (.bool false)), (12, (.int .i64 3))] (@hc) (by kernel_rfl) (by kernel_rfl) (by kernel_rfl) ?_
  refine Wl.batch (b := (base 33 80)) 6 11 [0, 2, 15, 17] [(0, (.str (s))), (2, (.int .i64 0)), (15, (.bool false)), (17, (.int .u8 (byteAt s 0)))] Heap.empty [(((0 : Int) ≤ (0 : Int)) ∧ ((0 : Int) < (↑(List.length s) : Int)))] (by kernel_rfl) rfl (.cons (by omega) .nil) ?_
  refine Wl.callP (b := (base 33 80)) (h1 := Heap.empty) (h2 := Heap.empty) (v := (.int .i64 3)) (d := (some 18)) 11 [0, 2, 15, 18] [(0, (.str (s))), (2, (.int .i64 0)), (15, (.bool false)), (18, (.int .i64 3))] (@hc) (by kernel_rfl) (by kernel_rfl) (by kernel_rfl) ?_
  refine Wl.batch (b := (base 33 80)) 12 16 [0, 2, 22] [(0, (.str (s))), (2, (.int .i64 0)), (22, (.bool (decide ((↑(List.length s) : Int) ≤ 3))))] Heap.empty [] (by kernel_rfl) rfl .nil ?_
  refine Wl.done 16 rfl ?_
  refine Wc.condP (p := (↑(List.length s) : Int) ≤ 3) (by kernel_rfl) (by kernel_rfl) (fun c2 => absurd c2 (show ¬ ((↑(List.length s) : Int) ≤ 3) from (by omega))) (fun c2 => ?_)
  refine Wc.skip ?_
  refine Wc.seq ?_
  refine Wc.enter ?_
  refine Wl.batch (b := (base 33 80)) 0 2 [0, 2, 22, 24] [(0, (.str (s))), (2, (.int .i64 0)), (22, (.bool (decide ((↑(List.length s) : Int) ≤ 3)))), (24, (.int .u8 (byteAt s 0)))] Heap.empty [(((0 : Int) ≤ (0 : Int)) ∧ ((0 : Int) < (↑(List.length s) : Int)))] (by kernel_rfl) rfl (.cons (by omega) .nil) ?_
  refine Wl.callP (b := (base 33 80)) (h1 := Heap.empty) (h2 := Heap.empty) (v := (.int .i64 3)) (d := (some 25)) 2 [0, 2, 22, 25] [(0, (.str (s))), (2, (.int .i64 0)), (22, (.bool (decide ((↑(List.length s) : Int) ≤ 3)))), (25, (.int .i64 3))] (@hc) (by kernel_rfl) (by kernel_rfl) (by kernel_rfl) ?_
  refine Wl.batch (b := (base 33 80)) 3 4 [0, 2, 3, 22] [(0, (.str (s))), (2, (.int .i64 0)), (3, (.int .i64 3)), (22, (.bool (decide ((↑(List.length s) : Int) ≤ 3))))] Heap.empty [] (by kernel_rfl) rfl .nil ?_
  refine Wl.done 4 rfl ?_
  refine Wc.seq ?_
  refine Wc.whole (b := (base 33 80)) [0, 2, 3, 4, 22] [(0, (.str (s))), (2, (.int .i64 0)), (3, (.int .i64 3)), (4, (.int .i64 (byteAt s 0))), (22, (.bool (decide ((↑(List.length s) : Int) ≤ 3))))] Heap.empty [(((0 : Int) ≤ (0 : Int)) ∧ ((0 : Int) < (↑(List.length s) : Int))), (((-9223372036854775808 : Int) ≤ byteAt s (0 : Int)) ∧ (byteAt s (0 : Int) ≤ (9223372036854775807 : Int)))] (by kernel_rfl) (.cons (by omega) (.cons (by omega) .nil)) ?_
  refine Wc.seq ?_
  refine Wc.seq ?_
  refine Wc.whole (b := (base 33 80)) [0, 2, 3, 4, 22, 30] [(0, (.str (s))), (2, (.int .i64 0)), (3, (.int .i64 3)), (4, (.int .i64 (byteAt s 0))), (22, (.bool (decide ((↑(List.length s) : Int) ≤ 3)))), (30, (.bool true))] Heap.empty [] (by kernel_rfl) .nil ?_
  refine Wc.condT (by kernel_rfl) (by kernel_rfl) ?_
  refine Wc.whole (b := (base 33 80)) [0, 2, 3, 4, 22, 30] [(0, (.str (s))), (2, (.int .i64 0)), (3, (.int .i64 3)), (4, (.int .i64 (byteAt s 0 % 8))), (22, (.bool (decide ((↑(List.length s) : Int) ≤ 3)))), (30, (.bool true))] Heap.empty [(((0 : Int) ≤ (3 : Int)) ∧ ((3 : Int) ≤ (18446744073709551615 : Int))), (((0 : Int) ≤ byteAt s (0 : Int)) ∧ ((0 : Int) < (8 : Int)))] (by kernel_rfl) (.cons (by omega) (.cons (by omega) .nil)) ?_
  refine Wc.seq ?_
  refine Wc.seq ?_
  refine Wc.whole (b := (base 33 80)) [0, 2, 3, 4, 5, 22, 30] [(0, (.str (s))), (2, (.int .i64 0)), (3, (.int .i64 3)), (4, (.int .i64 (byteAt s 0 % 8))), (5, (.int .i64 1)), (22, (.bool (decide ((↑(List.length s) : Int) ≤ 3)))), (30, (.bool true))] Heap.empty [] (by kernel_rfl) .nil ?_
  refine Wc.block ?_
  refine Wc.unroll ?_
  refine Wc.seq ?_
  refine Wc.seq ?_
  refine Wc.whole (b := (base 33 80)) [0, 2, 3, 4, 5, 22, 30, 38] [(0, (.str (s))), (2, (.int .i64 0)), (3, (.int .i64 3)), (4, (.int .i64 (byteAt s 0 % 8))), (5, (.int .i64 1)), (22, (.bool (decide ((↑(List.length s) : Int) ≤ 3)))), (30, (.bool true)), (38, (.bool true))] Heap.empty [] (by kernel_rfl) .nil ?_
  refine Wc.condT (by kernel_rfl) (by kernel_rfl) ?_
  refine Wc.skip ?_
  refine Wc.seq ?_
  refine Wc.block ?_
  refine Wc.seq ?_
  refine Wc.seq ?_
  refine Wc.enter ?_
  refine Wl.batch (b := (base 33 80)) 0 5 [0, 2, 3, 4, 5, 22, 30, 38, 45] [(0, (.str (s))), (2, (.int .i64 0)), (3, (.int .i64 3)), (4, (.int .i64 (byteAt s 0 % 8))), (5, (.int .i64 1)), (22, (.bool (decide ((↑(List.length s) : Int) ≤ 3)))), (30, (.bool true)), (38, (.bool true)), (45, (.bool (decide (byteAt s 1 < 128))))] Heap.empty [(((0 : Int) ≤ (1 : Int)) ∧ ((1 : Int) < (↑(List.length s) : Int)))] (by kernel_rfl) rfl (.cons (by omega) .nil) ?_
  by_cases ga1 : byteAt s 1 < 128
  · refine Wl.known [(0, (.str (s))), (2, (.int .i64 0)), (3, (.int .i64 3)), (4, (.int .i64 (byteAt s 0 % 8))), (5, (.int .i64 1)), (22, (.bool (decide ((↑(List.length s) : Int) ≤ 3)))), (30, (.bool true)), (38, (.bool true)), (45, (.bool true))] (by have e := decide_eq_true (show byteAt s 1 < 128 from ga1); simp only [e] <;> rfl) ?_
    refine Wl.batch (b := (base 33 80)) 5 10 [0, 2, 3, 4, 5, 22, 30, 38, 50] [(0, (.str (s))), (2, (.int .i64 0)), (3, (.int .i64 3)), (4, (.int .i64 (byteAt s 0 % 8))), (5, (.int .i64 1)), (22, (.bool (decide ((↑(List.length s) : Int) ≤ 3)))), (30, (.bool true)), (38, (.bool true)), (50, (.bool true))] Heap.empty [] (by kernel_rfl) rfl .nil ?_
    refine Wl.done 10 rfl ?_
    refine Wc.condT (by kernel_rfl) (by kernel_rfl) ?_
    refine Wc.seq ?_
    refine Wc.whole (b := (base 33 80)) [0, 2, 3, 4, 5, 22, 30, 38, 50] [(0, (.str (s))), (2, (.int .i64 0)), (3, (.int .i64 3)), (4, (.int .i64 (byteAt s 0 % 8))), (5, (.int .i64 1)), (22, (.bool (decide ((↑(List.length s) : Int) ≤ 3)))), (30, (.bool true)), (38, (.bool true)), (50, (.bool true))] Heap.empty [] (by kernel_rfl) .nil ?_
    refine Wc.ret ?_
    refine blockX.ret ?_
    refine blockX.ret ?_
    refine retX.mk (.int .i64 0) ⟨rfl, rfl⟩ (by kernel_rfl) ?_
    have e : one s = 0 := by rw [ho, if_neg (by omega)]
    rw [e]; rfl
  · refine Wl.known [(0, (.str (s))), (2, (.int .i64 0)), (3, (.int .i64 3)), (4, (.int .i64 (byteAt s 0 % 8))), (5, (.int .i64 1)), (22, (.bool (decide ((↑(List.length s) : Int) ≤ 3)))), (30, (.bool true)), (38, (.bool true)), (45, (.bool false))] (by have e := decide_eq_false (show ¬ (byteAt s 1 < 128) from ga1); simp only [e] <;> rfl) ?_
    refine Wl.batch (b := (base 33 80)) 5 10 [0, 2, 3, 4, 5, 22, 30, 38, 50] [(0, (.str (s))), (2, (.int .i64 0)), (3, (.int .i64 3)), (4, (.int .i64 (byteAt s 0 % 8))), (5, (.int .i64 1)), (22, (.bool (decide ((↑(List.length s) : Int) ≤ 3)))), (30, (.bool true)), (38, (.bool true)), (50, (.bool (decide (191 < byteAt s 1))))] Heap.empty [(((0 : Int) ≤ (1 : Int)) ∧ ((1 : Int) < (↑(List.length s) : Int)))] (by kernel_rfl) rfl (.cons (by omega) .nil) ?_
    refine Wl.done 10 rfl ?_
    refine Wc.condP (p := 191 < byteAt s 1) (by kernel_rfl) (by kernel_rfl) (fun c2 => ?_) (fun c2 => ?_)
    · refine Wc.seq ?_
      refine Wc.whole (b := (base 33 80)) [0, 2, 3, 4, 5, 22, 30, 38, 50] [(0, (.str (s))), (2, (.int .i64 0)), (3, (.int .i64 3)), (4, (.int .i64 (byteAt s 0 % 8))), (5, (.int .i64 1)), (22, (.bool (decide ((↑(List.length s) : Int) ≤ 3)))), (30, (.bool true)), (38, (.bool true)), (50, (.bool (decide (191 < byteAt s 1))))] Heap.empty [] (by kernel_rfl) .nil ?_
      refine Wc.ret ?_
      refine blockX.ret ?_
      refine blockX.ret ?_
      refine retX.mk (.int .i64 0) ⟨rfl, rfl⟩ (by kernel_rfl) ?_
      have e : one s = 0 := by rw [ho, if_neg (by omega)]
      rw [e]; rfl
    · refine Wc.skip ?_
      refine Wc.whole (b := (base 33 80)) [0, 2, 3, 4, 5, 22, 30, 38, 50] [(0, (.str (s))), (2, (.int .i64 0)), (3, (.int .i64 3)), (4, (.int .i64 (64 * (byteAt s 0 % 8) + byteAt s 1 % 64))), (5, (.int .i64 1)), (22, (.bool (decide ((↑(List.length s) : Int) ≤ 3)))), (30, (.bool true)), (38, (.bool true)), (50, (.bool (decide (191 < byteAt s 1))))] Heap.empty [(((-9223372036854775808 : Int) ≤ (64 : Int) * (byteAt s (0 : Int) % (8 : Int))) ∧ ((64 : Int) * (byteAt s (0 : Int) % (8 : Int)) ≤ (9223372036854775807 : Int))), (((0 : Int) ≤ (1 : Int)) ∧ ((1 : Int) < (↑(List.length s) : Int))), (((0 : Int) ≤ byteAt s (1 : Int)) ∧ ((0 : Int) < (64 : Int))), (((-9223372036854775808 : Int) ≤ byteAt s (1 : Int) % (64 : Int)) ∧ (byteAt s (1 : Int) % (64 : Int) ≤ (9223372036854775807 : Int))), (((-9223372036854775808 : Int) ≤ (64 : Int) * (byteAt s (0 : Int) % (8 : Int)) + byteAt s (1 : Int) % (64 : Int)) ∧ ((64 : Int) * (byteAt s (0 : Int) % (8 : Int)) + byteAt s (1 : Int) % (64 : Int) ≤ (9223372036854775807 : Int)))] (by kernel_rfl) (.cons (by omega) (.cons (by omega) (.cons (by omega) (.cons (by omega) (.cons (by omega) .nil))))) ?_
      refine Wc.whole (b := (base 33 80)) [0, 2, 3, 4, 5, 22, 30, 38, 50] [(0, (.str (s))), (2, (.int .i64 0)), (3, (.int .i64 3)), (4, (.int .i64 (64 * (byteAt s 0 % 8) + byteAt s 1 % 64))), (5, (.int .i64 2)), (22, (.bool (decide ((↑(List.length s) : Int) ≤ 3)))), (30, (.bool true)), (38, (.bool true)), (50, (.bool (decide (191 < byteAt s 1))))] Heap.empty [(((-9223372036854775808 : Int) ≤ (2 : Int)) ∧ ((2 : Int) ≤ (9223372036854775807 : Int)))] (by kernel_rfl) (.cons (by omega) .nil) ?_
      refine Wc.unroll ?_
      refine Wc.seq ?_
      refine Wc.seq ?_
      refine Wc.whole (b := (base 33 80)) [0, 2, 3, 4, 5, 22, 30, 38, 50] [(0, (.str (s))), (2, (.int .i64 0)), (3, (.int .i64 3)), (4, (.int .i64 (64 * (byteAt s 0 % 8) + byteAt s 1 % 64))), (5, (.int .i64 2)), (22, (.bool (decide ((↑(List.length s) : Int) ≤ 3)))), (30, (.bool true)), (38, (.bool true)), (50, (.bool (decide (191 < byteAt s 1))))] Heap.empty [] (by kernel_rfl) .nil ?_
      refine Wc.condT (by kernel_rfl) (by kernel_rfl) ?_
      refine Wc.skip ?_
      refine Wc.seq ?_
      refine Wc.block ?_
      refine Wc.seq ?_
      refine Wc.seq ?_
      refine Wc.enter ?_
      refine Wl.batch (b := (base 33 80)) 0 5 [0, 2, 3, 4, 5, 22, 30, 38, 45, 50] [(0, (.str (s))), (2, (.int .i64 0)), (3, (.int .i64 3)), (4, (.int .i64 (64 * (byteAt s 0 % 8) + byteAt s 1 % 64))), (5, (.int .i64 2)), (22, (.bool (decide ((↑(List.length s) : Int) ≤ 3)))), (30, (.bool true)), (38, (.bool true)), (45, (.bool (decide (byteAt s 2 < 128)))), (50, (.bool (decide (191 < byteAt s 1))))] Heap.empty [(((0 : Int) ≤ (2 : Int)) ∧ ((2 : Int) < (↑(List.length s) : Int)))] (by kernel_rfl) rfl (.cons (by omega) .nil) ?_
      by_cases gb2 : byteAt s 2 < 128
      · refine Wl.known [(0, (.str (s))), (2, (.int .i64 0)), (3, (.int .i64 3)), (4, (.int .i64 (64 * (byteAt s 0 % 8) + byteAt s 1 % 64))), (5, (.int .i64 2)), (22, (.bool (decide ((↑(List.length s) : Int) ≤ 3)))), (30, (.bool true)), (38, (.bool true)), (45, (.bool true)), (50, (.bool (decide (191 < byteAt s 1))))] (by have e := decide_eq_true (show byteAt s 2 < 128 from gb2); simp only [e] <;> rfl) ?_
        refine Wl.batch (b := (base 33 80)) 5 10 [0, 2, 3, 4, 5, 22, 30, 38, 50] [(0, (.str (s))), (2, (.int .i64 0)), (3, (.int .i64 3)), (4, (.int .i64 (64 * (byteAt s 0 % 8) + byteAt s 1 % 64))), (5, (.int .i64 2)), (22, (.bool (decide ((↑(List.length s) : Int) ≤ 3)))), (30, (.bool true)), (38, (.bool true)), (50, (.bool true))] Heap.empty [] (by kernel_rfl) rfl .nil ?_
        refine Wl.done 10 rfl ?_
        refine Wc.condT (by kernel_rfl) (by kernel_rfl) ?_
        refine Wc.seq ?_
        refine Wc.whole (b := (base 33 80)) [0, 2, 3, 4, 5, 22, 30, 38, 50] [(0, (.str (s))), (2, (.int .i64 0)), (3, (.int .i64 3)), (4, (.int .i64 (64 * (byteAt s 0 % 8) + byteAt s 1 % 64))), (5, (.int .i64 2)), (22, (.bool (decide ((↑(List.length s) : Int) ≤ 3)))), (30, (.bool true)), (38, (.bool true)), (50, (.bool true))] Heap.empty [] (by kernel_rfl) .nil ?_
        refine Wc.ret ?_
        refine blockX.ret ?_
        refine blockX.ret ?_
        refine retX.mk (.int .i64 0) ⟨rfl, rfl⟩ (by kernel_rfl) ?_
        have e : one s = 0 := by rw [ho, if_neg (by omega)]
        rw [e]; rfl
      · refine Wl.known [(0, (.str (s))), (2, (.int .i64 0)), (3, (.int .i64 3)), (4, (.int .i64 (64 * (byteAt s 0 % 8) + byteAt s 1 % 64))), (5, (.int .i64 2)), (22, (.bool (decide ((↑(List.length s) : Int) ≤ 3)))), (30, (.bool true)), (38, (.bool true)), (45, (.bool false)), (50, (.bool (decide (191 < byteAt s 1))))] (by have e := decide_eq_false (show ¬ (byteAt s 2 < 128) from gb2); simp only [e] <;> rfl) ?_
        refine Wl.batch (b := (base 33 80)) 5 10 [0, 2, 3, 4, 5, 22, 30, 38, 50] [(0, (.str (s))), (2, (.int .i64 0)), (3, (.int .i64 3)), (4, (.int .i64 (64 * (byteAt s 0 % 8) + byteAt s 1 % 64))), (5, (.int .i64 2)), (22, (.bool (decide ((↑(List.length s) : Int) ≤ 3)))), (30, (.bool true)), (38, (.bool true)), (50, (.bool (decide (191 < byteAt s 2))))] Heap.empty [(((0 : Int) ≤ (2 : Int)) ∧ ((2 : Int) < (↑(List.length s) : Int)))] (by kernel_rfl) rfl (.cons (by omega) .nil) ?_
        refine Wl.done 10 rfl ?_
        refine Wc.condP (p := 191 < byteAt s 2) (by kernel_rfl) (by kernel_rfl) (fun c2 => ?_) (fun c2 => ?_)
        · refine Wc.seq ?_
          refine Wc.whole (b := (base 33 80)) [0, 2, 3, 4, 5, 22, 30, 38, 50] [(0, (.str (s))), (2, (.int .i64 0)), (3, (.int .i64 3)), (4, (.int .i64 (64 * (byteAt s 0 % 8) + byteAt s 1 % 64))), (5, (.int .i64 2)), (22, (.bool (decide ((↑(List.length s) : Int) ≤ 3)))), (30, (.bool true)), (38, (.bool true)), (50, (.bool (decide (191 < byteAt s 2))))] Heap.empty [] (by kernel_rfl) .nil ?_
          refine Wc.ret ?_
          refine blockX.ret ?_
          refine blockX.ret ?_
          refine retX.mk (.int .i64 0) ⟨rfl, rfl⟩ (by kernel_rfl) ?_
          have e : one s = 0 := by rw [ho, if_neg (by omega)]
          rw [e]; rfl
        · refine Wc.skip ?_
          refine Wc.whole (b := (base 33 80)) [0, 2, 3, 4, 5, 22, 30, 38, 50] [(0, (.str (s))), (2, (.int .i64 0)), (3, (.int .i64 3)), (4, (.int .i64 (64 * (64 * (byteAt s 0 % 8) + byteAt s 1 % 64) + byteAt s 2 % 64))), (5, (.int .i64 2)), (22, (.bool (decide ((↑(List.length s) : Int) ≤ 3)))), (30, (.bool true)), (38, (.bool true)), (50, (.bool (decide (191 < byteAt s 2))))] Heap.empty [(((-9223372036854775808 : Int) ≤ (64 : Int) * ((64 : Int) * (byteAt s (0 : Int) % (8 : Int)) + byteAt s (1 : Int) % (64 : Int))) ∧ ((64 : Int) * ((64 : Int) * (byteAt s (0 : Int) % (8 : Int)) + byteAt s (1 : Int) % (64 : Int)) ≤ (9223372036854775807 : Int))), (((0 : Int) ≤ (2 : Int)) ∧ ((2 : Int) < (↑(List.length s) : Int))), (((0 : Int) ≤ byteAt s (2 : Int)) ∧ ((0 : Int) < (64 : Int))), (((-9223372036854775808 : Int) ≤ byteAt s (2 : Int) % (64 : Int)) ∧ (byteAt s (2 : Int) % (64 : Int) ≤ (9223372036854775807 : Int))), (((-9223372036854775808 : Int) ≤ (64 : Int) * ((64 : Int) * (byteAt s (0 : Int) % (8 : Int)) + byteAt s (1 : Int) % (64 : Int)) + byteAt s (2 : Int) % (64 : Int)) ∧ ((64 : Int) * ((64 : Int) * (byteAt s (0 : Int) % (8 : Int)) + byteAt s (1 : Int) % (64 : Int)) + byteAt s (2 : Int) % (64 : Int) ≤ (9223372036854775807 : Int)))] (by kernel_rfl) (.cons (by omega) (.cons (by omega) (.cons (by omega) (.cons (by omega) (.cons (by omega) .nil))))) ?_
          refine Wc.whole (b := (base 33 80)) [0, 2, 3, 4, 5, 22, 30, 38, 50] [(0, (.str (s))), (2, (.int .i64 0)), (3, (.int .i64 3)), (4, (.int .i64 (64 * (64 * (byteAt s 0 % 8) + byteAt s 1 % 64) + byteAt s 2 % 64))), (5, (.int .i64 3)), (22, (.bool (decide ((↑(List.length s) : Int) ≤ 3)))), (30, (.bool true)), (38, (.bool true)), (50, (.bool (decide (191 < byteAt s 2))))] Heap.empty [(((-9223372036854775808 : Int) ≤ (3 : Int)) ∧ ((3 : Int) ≤ (9223372036854775807 : Int)))] (by kernel_rfl) (.cons (by omega) .nil) ?_
          refine Wc.unroll ?_
          refine Wc.seq ?_
          refine Wc.seq ?_
          refine Wc.whole (b := (base 33 80)) [0, 2, 3, 4, 5, 22, 30, 38, 50] [(0, (.str (s))), (2, (.int .i64 0)), (3, (.int .i64 3)), (4, (.int .i64 (64 * (64 * (byteAt s 0 % 8) + byteAt s 1 % 64) + byteAt s 2 % 64))), (5, (.int .i64 3)), (22, (.bool (decide ((↑(List.length s) : Int) ≤ 3)))), (30, (.bool true)), (38, (.bool true)), (50, (.bool (decide (191 < byteAt s 2))))] Heap.empty [] (by kernel_rfl) .nil ?_
          refine Wc.condT (by kernel_rfl) (by kernel_rfl) ?_
          refine Wc.skip ?_
          refine Wc.seq ?_
          refine Wc.block ?_
          refine Wc.seq ?_
          refine Wc.seq ?_
          refine Wc.enter ?_
          refine Wl.batch (b := (base 33 80)) 0 5 [0, 2, 3, 4, 5, 22, 30, 38, 45, 50] [(0, (.str (s))), (2, (.int .i64 0)), (3, (.int .i64 3)), (4, (.int .i64 (64 * (64 * (byteAt s 0 % 8) + byteAt s 1 % 64) + byteAt s 2 % 64))), (5, (.int .i64 3)), (22, (.bool (decide ((↑(List.length s) : Int) ≤ 3)))), (30, (.bool true)), (38, (.bool true)), (45, (.bool (decide (byteAt s 3 < 128)))), (50, (.bool (decide (191 < byteAt s 2))))] Heap.empty [(((0 : Int) ≤ (3 : Int)) ∧ ((3 : Int) < (↑(List.length s) : Int)))] (by kernel_rfl) rfl (.cons (by omega) .nil) ?_
          by_cases gc2 : byteAt s 3 < 128
          · refine Wl.known [(0, (.str (s))), (2, (.int .i64 0)), (3, (.int .i64 3)), (4, (.int .i64 (64 * (64 * (byteAt s 0 % 8) + byteAt s 1 % 64) + byteAt s 2 % 64))), (5, (.int .i64 3)), (22, (.bool (decide ((↑(List.length s) : Int) ≤ 3)))), (30, (.bool true)), (38, (.bool true)), (45, (.bool true)), (50, (.bool (decide (191 < byteAt s 2))))] (by have e := decide_eq_true (show byteAt s 3 < 128 from gc2); simp only [e] <;> rfl) ?_
            refine Wl.batch (b := (base 33 80)) 5 10 [0, 2, 3, 4, 5, 22, 30, 38, 50] [(0, (.str (s))), (2, (.int .i64 0)), (3, (.int .i64 3)), (4, (.int .i64 (64 * (64 * (byteAt s 0 % 8) + byteAt s 1 % 64) + byteAt s 2 % 64))), (5, (.int .i64 3)), (22, (.bool (decide ((↑(List.length s) : Int) ≤ 3)))), (30, (.bool true)), (38, (.bool true)), (50, (.bool true))] Heap.empty [] (by kernel_rfl) rfl .nil ?_
            refine Wl.done 10 rfl ?_
            refine Wc.condT (by kernel_rfl) (by kernel_rfl) ?_
            refine Wc.seq ?_
            refine Wc.whole (b := (base 33 80)) [0, 2, 3, 4, 5, 22, 30, 38, 50] [(0, (.str (s))), (2, (.int .i64 0)), (3, (.int .i64 3)), (4, (.int .i64 (64 * (64 * (byteAt s 0 % 8) + byteAt s 1 % 64) + byteAt s 2 % 64))), (5, (.int .i64 3)), (22, (.bool (decide ((↑(List.length s) : Int) ≤ 3)))), (30, (.bool true)), (38, (.bool true)), (50, (.bool true))] Heap.empty [] (by kernel_rfl) .nil ?_
            refine Wc.ret ?_
            refine blockX.ret ?_
            refine blockX.ret ?_
            refine retX.mk (.int .i64 0) ⟨rfl, rfl⟩ (by kernel_rfl) ?_
            have e : one s = 0 := by rw [ho, if_neg (by omega)]
            rw [e]; rfl
          · refine Wl.known [(0, (.str (s))), (2, (.int .i64 0)), (3, (.int .i64 3)), (4, (.int .i64 (64 * (64 * (byteAt s 0 % 8) + byteAt s 1 % 64) + byteAt s 2 % 64))), (5, (.int .i64 3)), (22, (.bool (decide ((↑(List.length s) : Int) ≤ 3)))), (30, (.bool true)), (38, (.bool true)), (45, (.bool false)), (50, (.bool (decide (191 < byteAt s 2))))] (by have e := decide_eq_false (show ¬ (byteAt s 3 < 128) from gc2); simp only [e] <;> rfl) ?_
            refine Wl.batch (b := (base 33 80)) 5 10 [0, 2, 3, 4, 5, 22, 30, 38, 50] [(0, (.str (s))), (2, (.int .i64 0)), (3, (.int .i64 3)), (4, (.int .i64 (64 * (64 * (byteAt s 0 % 8) + byteAt s 1 % 64) + byteAt s 2 % 64))), (5, (.int .i64 3)), (22, (.bool (decide ((↑(List.length s) : Int) ≤ 3)))), (30, (.bool true)), (38, (.bool true)), (50, (.bool (decide (191 < byteAt s 3))))] Heap.empty [(((0 : Int) ≤ (3 : Int)) ∧ ((3 : Int) < (↑(List.length s) : Int)))] (by kernel_rfl) rfl (.cons (by omega) .nil) ?_
            refine Wl.done 10 rfl ?_
            refine Wc.condP (p := 191 < byteAt s 3) (by kernel_rfl) (by kernel_rfl) (fun c2 => ?_) (fun c2 => ?_)
            · refine Wc.seq ?_
              refine Wc.whole (b := (base 33 80)) [0, 2, 3, 4, 5, 22, 30, 38, 50] [(0, (.str (s))), (2, (.int .i64 0)), (3, (.int .i64 3)), (4, (.int .i64 (64 * (64 * (byteAt s 0 % 8) + byteAt s 1 % 64) + byteAt s 2 % 64))), (5, (.int .i64 3)), (22, (.bool (decide ((↑(List.length s) : Int) ≤ 3)))), (30, (.bool true)), (38, (.bool true)), (50, (.bool (decide (191 < byteAt s 3))))] Heap.empty [] (by kernel_rfl) .nil ?_
              refine Wc.ret ?_
              refine blockX.ret ?_
              refine blockX.ret ?_
              refine retX.mk (.int .i64 0) ⟨rfl, rfl⟩ (by kernel_rfl) ?_
              have e : one s = 0 := by rw [ho, if_neg (by omega)]
              rw [e]; rfl
            · refine Wc.skip ?_
              refine Wc.whole (b := (base 33 80)) [0, 2, 3, 4, 5, 22, 30, 38, 50] [(0, (.str (s))), (2, (.int .i64 0)), (3, (.int .i64 3)), (4, (.int .i64 (64 * (64 * (64 * (byteAt s 0 % 8) + byteAt s 1 % 64) + byteAt s 2 % 64) + byteAt s 3 % 64))), (5, (.int .i64 3)), (22, (.bool (decide ((↑(List.length s) : Int) ≤ 3)))), (30, (.bool true)), (38, (.bool true)), (50, (.bool (decide (191 < byteAt s 3))))] Heap.empty [(((-9223372036854775808 : Int) ≤ (64 : Int) * ((64 : Int) * ((64 : Int) * (byteAt s (0 : Int) % (8 : Int)) + byteAt s (1 : Int) % (64 : Int)) + byteAt s (2 : Int) % (64 : Int))) ∧ ((64 : Int) * ((64 : Int) * ((64 : Int) * (byteAt s (0 : Int) % (8 : Int)) + byteAt s (1 : Int) % (64 : Int)) + byteAt s (2 : Int) % (64 : Int)) ≤ (9223372036854775807 : Int))), (((0 : Int) ≤ (3 : Int)) ∧ ((3 : Int) < (↑(List.length s) : Int))), (((0 : Int) ≤ byteAt s (3 : Int)) ∧ ((0 : Int) < (64 : Int))), (((-9223372036854775808 : Int) ≤ byteAt s (3 : Int) % (64 : Int)) ∧ (byteAt s (3 : Int) % (64 : Int) ≤ (9223372036854775807 : Int))), (((-9223372036854775808 : Int) ≤ (64 : Int) * ((64 : Int) * ((64 : Int) * (byteAt s (0 : Int) % (8 : Int)) + byteAt s (1 : Int) % (64 : Int)) + byteAt s (2 : Int) % (64 : Int)) + byteAt s (3 : Int) % (64 : Int)) ∧ ((64 : Int) * ((64 : Int) * ((64 : Int) * (byteAt s (0 : Int) % (8 : Int)) + byteAt s (1 : Int) % (64 : Int)) + byteAt s (2 : Int) % (64 : Int)) + byteAt s (3 : Int) % (64 : Int) ≤ (9223372036854775807 : Int)))] (by kernel_rfl) (.cons (by omega) (.cons (by omega) (.cons (by omega) (.cons (by omega) (.cons (by omega) .nil))))) ?_
              refine Wc.whole (b := (base 33 80)) [0, 2, 3, 4, 5, 22, 30, 38, 50] [(0, (.str (s))), (2, (.int .i64 0)), (3, (.int .i64 3)), (4, (.int .i64 (64 * (64 * (64 * (byteAt s 0 % 8) + byteAt s 1 % 64) + byteAt s 2 % 64) + byteAt s 3 % 64))), (5, (.int .i64 4)), (22, (.bool (decide ((↑(List.length s) : Int) ≤ 3)))), (30, (.bool true)), (38, (.bool true)), (50, (.bool (decide (191 < byteAt s 3))))] Heap.empty [(((-9223372036854775808 : Int) ≤ (4 : Int)) ∧ ((4 : Int) ≤ (9223372036854775807 : Int)))] (by kernel_rfl) (.cons (by omega) .nil) ?_
              refine Wc.unroll ?_
              refine Wc.seq ?_
              refine Wc.seq ?_
              refine Wc.whole (b := (base 33 80)) [0, 2, 3, 4, 5, 22, 30, 38, 50] [(0, (.str (s))), (2, (.int .i64 0)), (3, (.int .i64 3)), (4, (.int .i64 (64 * (64 * (64 * (byteAt s 0 % 8) + byteAt s 1 % 64) + byteAt s 2 % 64) + byteAt s 3 % 64))), (5, (.int .i64 4)), (22, (.bool (decide ((↑(List.length s) : Int) ≤ 3)))), (30, (.bool true)), (38, (.bool false)), (50, (.bool (decide (191 < byteAt s 3))))] Heap.empty [] (by kernel_rfl) .nil ?_
              refine Wc.condF (by kernel_rfl) (by kernel_rfl) ?_
              refine Wc.exit ?_
              refine blockX.here ?_
              refine Wc.seq ?_
              refine Wc.whole (b := (base 33 80)) [0, 2, 3, 4, 5, 6, 22, 30, 38, 50] [(0, (.str (s))), (2, (.int .i64 0)), (3, (.int .i64 3)), (4, (.int .i64 (64 * (64 * (64 * (byteAt s 0 % 8) + byteAt s 1 % 64) + byteAt s 2 % 64) + byteAt s 3 % 64))), (5, (.int .i64 4)), (6, (.int .i64 65536)), (22, (.bool (decide ((↑(List.length s) : Int) ≤ 3)))), (30, (.bool true)), (38, (.bool false)), (50, (.bool (decide (191 < byteAt s 3))))] Heap.empty [(((0 : Int) ≤ (3 : Int)) ∧ ((3 : Int) < (4 : Int)))] (by kernel_rfl) (.cons (by omega) .nil) ?_
              refine Wc.seq ?_
              refine Wc.seq ?_
              refine Wc.enter ?_
              refine Wl.batch (b := (base 33 80)) 0 4 [0, 2, 3, 4, 5, 6, 22, 30, 38, 50, 66] [(0, (.str (s))), (2, (.int .i64 0)), (3, (.int .i64 3)), (4, (.int .i64 (64 * (64 * (64 * (byteAt s 0 % 8) + byteAt s 1 % 64) + byteAt s 2 % 64) + byteAt s 3 % 64))), (5, (.int .i64 4)), (6, (.int .i64 65536)), (22, (.bool (decide ((↑(List.length s) : Int) ≤ 3)))), (30, (.bool true)), (38, (.bool false)), (50, (.bool (decide (191 < byteAt s 3)))), (66, (.bool (decide (64 * (64 * (64 * (byteAt s 0 % 8) + byteAt s 1 % 64) + byteAt s 2 % 64) + byteAt s 3 % 64 < 65536))))] Heap.empty [] (by kernel_rfl) rfl .nil ?_
              by_cases gd2 : 64 * (64 * (64 * (byteAt s 0 % 8) + byteAt s 1 % 64) + byteAt s 2 % 64) + byteAt s 3 % 64 < 65536
              · refine Wl.known [(0, (.str (s))), (2, (.int .i64 0)), (3, (.int .i64 3)), (4, (.int .i64 (64 * (64 * (64 * (byteAt s 0 % 8) + byteAt s 1 % 64) + byteAt s 2 % 64) + byteAt s 3 % 64))), (5, (.int .i64 4)), (6, (.int .i64 65536)), (22, (.bool (decide ((↑(List.length s) : Int) ≤ 3)))), (30, (.bool true)), (38, (.bool false)), (50, (.bool (decide (191 < byteAt s 3)))), (66, (.bool true))] (by have e := decide_eq_true (show 64 * (64 * (64 * (byteAt s 0 % 8) + byteAt s 1 % 64) + byteAt s 2 % 64) + byteAt s 3 % 64 < 65536 from gd2); simp only [e] <;> rfl) ?_
                refine Wl.batch (b := (base 33 80)) 4 15 [0, 2, 3, 4, 5, 6, 22, 30, 38, 50, 77] [(0, (.str (s))), (2, (.int .i64 0)), (3, (.int .i64 3)), (4, (.int .i64 (64 * (64 * (64 * (byteAt s 0 % 8) + byteAt s 1 % 64) + byteAt s 2 % 64) + byteAt s 3 % 64))), (5, (.int .i64 4)), (6, (.int .i64 65536)), (22, (.bool (decide ((↑(List.length s) : Int) ≤ 3)))), (30, (.bool true)), (38, (.bool false)), (50, (.bool (decide (191 < byteAt s 3)))), (77, (.bool true))] Heap.empty [] (by kernel_rfl) rfl .nil ?_
                refine Wl.done 15 rfl ?_
                refine Wc.condT (by kernel_rfl) (by kernel_rfl) ?_
                refine Wc.seq ?_
                refine Wc.whole (b := (base 33 80)) [0, 2, 3, 4, 5, 6, 22, 30, 38, 50, 77] [(0, (.str (s))), (2, (.int .i64 0)), (3, (.int .i64 3)), (4, (.int .i64 (64 * (64 * (64 * (byteAt s 0 % 8) + byteAt s 1 % 64) + byteAt s 2 % 64) + byteAt s 3 % 64))), (5, (.int .i64 4)), (6, (.int .i64 65536)), (22, (.bool (decide ((↑(List.length s) : Int) ≤ 3)))), (30, (.bool true)), (38, (.bool false)), (50, (.bool (decide (191 < byteAt s 3)))), (77, (.bool true))] Heap.empty [] (by kernel_rfl) .nil ?_
                refine Wc.ret ?_
                refine retX.mk (.int .i64 0) ⟨rfl, rfl⟩ (by kernel_rfl) ?_
                have e : one s = 0 := by rw [ho, if_neg (by omega)]
                rw [e]; rfl
              · refine Wl.known [(0, (.str (s))), (2, (.int .i64 0)), (3, (.int .i64 3)), (4, (.int .i64 (64 * (64 * (64 * (byteAt s 0 % 8) + byteAt s 1 % 64) + byteAt s 2 % 64) + byteAt s 3 % 64))), (5, (.int .i64 4)), (6, (.int .i64 65536)), (22, (.bool (decide ((↑(List.length s) : Int) ≤ 3)))), (30, (.bool true)), (38, (.bool false)), (50, (.bool (decide (191 < byteAt s 3)))), (66, (.bool false))] (by have e := decide_eq_false (show ¬ (64 * (64 * (64 * (byteAt s 0 % 8) + byteAt s 1 % 64) + byteAt s 2 % 64) + byteAt s 3 % 64 < 65536) from gd2); simp only [e] <;> rfl) ?_
                refine Wl.batch (b := (base 33 80)) 4 7 [0, 2, 3, 4, 5, 6, 22, 30, 38, 50, 66, 69] [(0, (.str (s))), (2, (.int .i64 0)), (3, (.int .i64 3)), (4, (.int .i64 (64 * (64 * (64 * (byteAt s 0 % 8) + byteAt s 1 % 64) + byteAt s 2 % 64) + byteAt s 3 % 64))), (5, (.int .i64 4)), (6, (.int .i64 65536)), (22, (.bool (decide ((↑(List.length s) : Int) ≤ 3)))), (30, (.bool true)), (38, (.bool false)), (50, (.bool (decide (191 < byteAt s 3)))), (66, (.bool false)), (69, (.bool (decide (55296 ≤ 64 * (64 * (64 * (byteAt s 0 % 8) + byteAt s 1 % 64) + byteAt s 2 % 64) + byteAt s 3 % 64))))] Heap.empty [] (by kernel_rfl) rfl .nil ?_
                refine Wl.known [(0, (.str (s))), (2, (.int .i64 0)), (3, (.int .i64 3)), (4, (.int .i64 (64 * (64 * (64 * (byteAt s 0 % 8) + byteAt s 1 % 64) + byteAt s 2 % 64) + byteAt s 3 % 64))), (5, (.int .i64 4)), (6, (.int .i64 65536)), (22, (.bool (decide ((↑(List.length s) : Int) ≤ 3)))), (30, (.bool true)), (38, (.bool false)), (50, (.bool (decide (191 < byteAt s 3)))), (66, (.bool false)), (69, (.bool true))] (by have e := decide_eq_true (show 55296 ≤ 64 * (64 * (64 * (byteAt s 0 % 8) + byteAt s 1 % 64) + byteAt s 2 % 64) + byteAt s 3 % 64 from (by omega)); simp only [e] <;> rfl) ?_
                refine Wl.batch (b := (base 33 80)) 7 12 [0, 2, 3, 4, 5, 6, 22, 30, 38, 50, 74] [(0, (.str (s))), (2, (.int .i64 0)), (3, (.int .i64 3)), (4, (.int .i64 (64 * (64 * (64 * (byteAt s 0 % 8) + byteAt s 1 % 64) + byteAt s 2 % 64) + byteAt s 3 % 64))), (5, (.int .i64 4)), (6, (.int .i64 65536)), (22, (.bool (decide ((↑(List.length s) : Int) ≤ 3)))), (30, (.bool true)), (38, (.bool false)), (50, (.bool (decide (191 < byteAt s 3)))), (74, (.bool (decide (64 * (64 * (64 * (byteAt s 0 % 8) + byteAt s 1 % 64) + byteAt s 2 % 64) + byteAt s 3 % 64 ≤ 57343))))] Heap.empty [] (by kernel_rfl) rfl .nil ?_
                refine Wl.known [(0, (.str (s))), (2, (.int .i64 0)), (3, (.int .i64 3)), (4, (.int .i64 (64 * (64 * (64 * (byteAt s 0 % 8) + byteAt s 1 % 64) + byteAt s 2 % 64) + byteAt s 3 % 64))), (5, (.int .i64 4)), (6, (.int .i64 65536)), (22, (.bool (decide ((↑(List.length s) : Int) ≤ 3)))), (30, (.bool true)), (38, (.bool false)), (50, (.bool (decide (191 < byteAt s 3)))), (74, (.bool false))] (by have e := decide_eq_false (show ¬ (64 * (64 * (64 * (byteAt s 0 % 8) + byteAt s 1 % 64) + byteAt s 2 % 64) + byteAt s 3 % 64 ≤ 57343) from (by omega)); simp only [e] <;> rfl) ?_
                refine Wl.batch (b := (base 33 80)) 12 15 [0, 2, 3, 4, 5, 6, 22, 30, 38, 50, 77] [(0, (.str (s))), (2, (.int .i64 0)), (3, (.int .i64 3)), (4, (.int .i64 (64 * (64 * (64 * (byteAt s 0 % 8) + byteAt s 1 % 64) + byteAt s 2 % 64) + byteAt s 3 % 64))), (5, (.int .i64 4)), (6, (.int .i64 65536)), (22, (.bool (decide ((↑(List.length s) : Int) ≤ 3)))), (30, (.bool true)), (38, (.bool false)), (50, (.bool (decide (191 < byteAt s 3)))), (77, (.bool (decide (1114111 < 64 * (64 * (64 * (byteAt s 0 % 8) + byteAt s 1 % 64) + byteAt s 2 % 64) + byteAt s 3 % 64))))] Heap.empty [] (by kernel_rfl) rfl .nil ?_
                refine Wl.done 15 rfl ?_
                refine Wc.condP (p := 1114111 < 64 * (64 * (64 * (byteAt s 0 % 8) + byteAt s 1 % 64) + byteAt s 2 % 64) + byteAt s 3 % 64) (by kernel_rfl) (by kernel_rfl) (fun c4 => ?_) (fun c4 => ?_)
                · refine Wc.seq ?_
                  refine Wc.whole (b := (base 33 80)) [0, 2, 3, 4, 5, 6, 22, 30, 38, 50, 77] [(0, (.str (s))), (2, (.int .i64 0)), (3, (.int .i64 3)), (4, (.int .i64 (64 * (64 * (64 * (byteAt s 0 % 8) + byteAt s 1 % 64) + byteAt s 2 % 64) + byteAt s 3 % 64))), (5, (.int .i64 4)), (6, (.int .i64 65536)), (22, (.bool (decide ((↑(List.length s) : Int) ≤ 3)))), (30, (.bool true)), (38, (.bool false)), (50, (.bool (decide (191 < byteAt s 3)))), (77, (.bool (decide (1114111 < 64 * (64 * (64 * (byteAt s 0 % 8) + byteAt s 1 % 64) + byteAt s 2 % 64) + byteAt s 3 % 64))))] Heap.empty [] (by kernel_rfl) .nil ?_
                  refine Wc.ret ?_
                  refine retX.mk (.int .i64 0) ⟨rfl, rfl⟩ (by kernel_rfl) ?_
                  have e : one s = 0 := by rw [ho, if_neg (by omega)]
                  rw [e]; rfl
                · refine Wc.skip ?_
                  refine Wc.seq ?_
                  refine Wc.whole (b := (base 33 80)) [0, 2, 3, 4, 5, 6, 22, 30, 38, 50, 77] [(0, (.str (s))), (2, (.int .i64 4)), (3, (.int .i64 3)), (4, (.int .i64 (64 * (64 * (64 * (byteAt s 0 % 8) + byteAt s 1 % 64) + byteAt s 2 % 64) + byteAt s 3 % 64))), (5, (.int .i64 4)), (6, (.int .i64 65536)), (22, (.bool (decide ((↑(List.length s) : Int) ≤ 3)))), (30, (.bool true)), (38, (.bool false)), (50, (.bool (decide (191 < byteAt s 3)))), (77, (.bool (decide (1114111 < 64 * (64 * (64 * (byteAt s 0 % 8) + byteAt s 1 % 64) + byteAt s 2 % 64) + byteAt s 3 % 64))))] Heap.empty [(((-9223372036854775808 : Int) ≤ (4 : Int)) ∧ ((4 : Int) ≤ (9223372036854775807 : Int)))] (by kernel_rfl) (.cons (by omega) .nil) ?_
                  refine Wc.ret ?_
                  refine retX.mk (.int .i64 4) ⟨rfl, rfl⟩ (by kernel_rfl) ?_
                  have e : one s = 4 := by rw [ho, if_pos (by omega)]
                  rw [e]; rfl

end Go.AM
