/-
  WHAT THE FUNCTIONS THAT THE LAWS CALL COME TO, over any text: walked over states of which a part is known. No condition but what each says of its arguments.
-/
import Derived.Test.YtimkfnaodbfjmaaDoorAmEnvU
import Derived.Test.YtimkfnaodbfjmaaDoorUtfLaws
namespace Go.AM
open Go.Proofs
set_option maxRecDepth 100000
set_option maxHeartbeats 4000000

theorem c28 (s : List UInt8) : Cp Tryd.prog EU 28 [.str s, .int .u8 10] (.int .i64 ((s.count 10 : Nat) : Int)) :=
  Cp.ext (fn := Tryd.f28) Tryd.func28 rfl (h := Heap.empty) (v := .int .i64 ((s.count 10 : Nat) : Int)) (by rw [← count_eq]; kernel_rfl) rfl
theorem c45 (s : List UInt8) : Cp Tryd.prog EU 45 [.str s, .int .u8 10] (.int .i64 (findByte 10 s 0)) :=
  Cp.ext (fn := Tryd.f45) Tryd.func45 rfl (h := Heap.empty) (v := .int .i64 (findByte 10 s 0)) (by kernel_rfl) rfl
theorem c40 (s : List UInt8) : Cp Tryd.prog EU 40 [.str s, .int .u8 10] (.int .i64 (findByte 10 s 0)) := by
  refine Cp.body (fn := Tryd.f40) Tryd.func40 rfl (by kernel_rfl) ?_
  refine Wc.seq ?_
  refine Wc.whole (b := (base 40 8)) [0, 1, 4] [(0, (.str (s))), (1, (.int .u8 10)), (4, (.int .i64 0))] Heap.empty [] (by kernel_rfl) .nil ?_
  refine Wc.seq ?_
  refine Wc.enter ?_
  refine Wl.batch (b := (base 40 8)) 0 2 [0, 1, 4, 5, 6] [(0, (.str (s))), (1, (.int .u8 10)), (4, (.int .i64 0)), (5, (.str (s))), (6, (.int .u8 10))] Heap.empty [] (by kernel_rfl) rfl .nil ?_
  refine Wl.callP (b := (base 40 8)) (h1 := Heap.empty) (h2 := Heap.empty) (v := (.int .i64 (findByte 10 s 0))) (d := (some 7)) 2 [0, 1, 4, 7] [(0, (.str (s))), (1, (.int .u8 10)), (4, (.int .i64 0)), (7, (.int .i64 (findByte 10 s 0)))] (@Go.AM.c45 (s)) (by kernel_rfl) (by kernel_rfl) (by kernel_rfl) ?_
  refine Wl.batch (b := (base 40 8)) 3 4 [0, 1, 4] [(0, (.str (s))), (1, (.int .u8 10)), (4, (.int .i64 (findByte 10 s 0)))] Heap.empty [] (by kernel_rfl) rfl .nil ?_
  refine Wl.done 4 rfl ?_
  refine Wc.ret ?_
  refine retX.mk (.int .i64 (findByte 10 s 0)) ⟨rfl, rfl⟩ (by kernel_rfl) ?_
  kernel_rfl
theorem c35 (s : List UInt8) : Cp Tryd.prog EU 35 [.str s, .str [10]] (.int .i64 (findByte 10 s 0)) := by
  refine Cp.body (fn := Tryd.f35) Tryd.func35 rfl (by kernel_rfl) ?_
  refine Wc.seq ?_
  refine Wc.whole (b := (base 35 143)) [0, 1, 4] [(0, (.str (s))), (1, (.str [10])), (4, (.int .i64 0))] Heap.empty [] (by kernel_rfl) .nil ?_
  refine Wc.seq ?_
  refine Wc.whole (b := (base 35 143)) [0, 1, 4, 5] [(0, (.str (s))), (1, (.str [10])), (4, (.int .i64 0)), (5, (.int .i64 1))] Heap.empty [] (by kernel_rfl) .nil ?_
  refine Wc.seq ?_
  refine Wc.block ?_
  refine Wc.seq ?_
  refine Wc.whole (b := (base 35 143)) [0, 1, 4, 5, 16] [(0, (.str (s))), (1, (.str [10])), (4, (.int .i64 0)), (5, (.int .i64 1)), (16, (.bool (decide ([10] = s))))] Heap.empty [] (by kernel_rfl) .nil ?_
  refine Wc.condP (p := [10] = s) (by kernel_rfl) (by kernel_rfl) (fun c1 => ?_) (fun c1 => ?_)
  · refine Wc.seq ?_
    refine Wc.whole (b := (base 35 143)) [0, 1, 4, 5, 16] [(0, (.str (s))), (1, (.str [10])), (4, (.int .i64 0)), (5, (.int .i64 1)), (16, (.bool (decide ([10] = s))))] Heap.empty [] (by kernel_rfl) .nil ?_
    refine Wc.ret ?_
    refine blockX.ret ?_
    refine retX.mk (.int .i64 0) ⟨rfl, rfl⟩ (by kernel_rfl) ?_
    subst c1; kernel_rfl
  · refine Wc.seq ?_
    refine Wc.whole (b := (base 35 143)) [0, 1, 4, 5, 16, 24] [(0, (.str (s))), (1, (.str [10])), (4, (.int .i64 0)), (5, (.int .i64 1)), (16, (.bool (decide ([10] = s)))), (24, (.bool true))] Heap.empty [] (by kernel_rfl) .nil ?_
    refine Wc.condT (by kernel_rfl) (by kernel_rfl) ?_
    refine Wc.seq ?_
    refine Wc.enter ?_
    refine Wl.batch (b := (base 35 143)) 0 3 [0, 1, 4, 5, 16, 24, 27, 29] [(0, (.str (s))), (1, (.str [10])), (4, (.int .i64 0)), (5, (.int .i64 1)), (16, (.bool (decide ([10] = s)))), (24, (.bool true)), (27, (.str (s))), (29, (.int .u8 10))] Heap.empty [(((0 : Int) ≤ (0 : Int)) ∧ ((0 : Int) < (1 : Int)))] (by kernel_rfl) rfl (.cons (by omega) .nil) ?_
    refine Wl.callP (b := (base 35 143)) (h1 := Heap.empty) (h2 := Heap.empty) (v := (.int .i64 (findByte 10 s 0))) (d := (some 30)) 3 [0, 1, 4, 5, 16, 24, 30] [(0, (.str (s))), (1, (.str [10])), (4, (.int .i64 0)), (5, (.int .i64 1)), (16, (.bool (decide ([10] = s)))), (24, (.bool true)), (30, (.int .i64 (findByte 10 s 0)))] (@Go.AM.c40 (s)) (by kernel_rfl) (by kernel_rfl) (by kernel_rfl) ?_
    refine Wl.batch (b := (base 35 143)) 4 5 [0, 1, 4, 5, 16, 24] [(0, (.str (s))), (1, (.str [10])), (4, (.int .i64 (findByte 10 s 0))), (5, (.int .i64 1)), (16, (.bool (decide ([10] = s)))), (24, (.bool true))] Heap.empty [] (by kernel_rfl) rfl .nil ?_
    refine Wl.done 5 rfl ?_
    refine Wc.ret ?_
    refine blockX.ret ?_
    refine retX.mk (.int .i64 (findByte 10 s 0)) ⟨rfl, rfl⟩ (by kernel_rfl) ?_
    rfl
theorem c29 (s : List UInt8) : Cp Tryd.prog EU 29 [.str s, .str [10]] (.int .i64 (findByte 10 s 0)) := by
  refine Cp.body (fn := Tryd.f29) Tryd.func29 rfl (by kernel_rfl) ?_
  refine Wc.seq ?_
  refine Wc.whole (b := (base 29 8)) [0, 1, 4] [(0, (.str (s))), (1, (.str [10])), (4, (.int .i64 0))] Heap.empty [] (by kernel_rfl) .nil ?_
  refine Wc.seq ?_
  refine Wc.enter ?_
  refine Wl.batch (b := (base 29 8)) 0 2 [0, 1, 4, 5, 6] [(0, (.str (s))), (1, (.str [10])), (4, (.int .i64 0)), (5, (.str (s))), (6, (.str [10]))] Heap.empty [] (by kernel_rfl) rfl .nil ?_
  refine Wl.callP (b := (base 29 8)) (h1 := Heap.empty) (h2 := Heap.empty) (v := (.int .i64 (findByte 10 s 0))) (d := (some 7)) 2 [0, 1, 4, 7] [(0, (.str (s))), (1, (.str [10])), (4, (.int .i64 0)), (7, (.int .i64 (findByte 10 s 0)))] (@Go.AM.c35 (s)) (by kernel_rfl) (by kernel_rfl) (by kernel_rfl) ?_
  refine Wl.batch (b := (base 29 8)) 3 4 [0, 1, 4] [(0, (.str (s))), (1, (.str [10])), (4, (.int .i64 (findByte 10 s 0)))] Heap.empty [] (by kernel_rfl) rfl .nil ?_
  refine Wl.done 4 rfl ?_
  refine Wc.ret ?_
  refine retX.mk (.int .i64 (findByte 10 s 0)) ⟨rfl, rfl⟩ (by kernel_rfl) ?_
  kernel_rfl
theorem c30 (s : List UInt8) (hs : s.length ≤ 1099511627776) : Cp Tryd.prog EU 30 [.str s, .int .u8 10] (.int .i64 (lastB 10 s)) := by
  refine Cp.body (fn := Tryd.f30) Tryd.func30 rfl (by kernel_rfl) ?_
  refine Wc.seq ?_
  refine Wc.whole (b := (base 30 19)) [0, 1, 4] [(0, (.str (s))), (1, (.int .u8 10)), (4, (.int .i64 0))] Heap.empty [] (by kernel_rfl) .nil ?_
  refine Wc.seq ?_
  refine Wc.seq ?_
  refine Wc.whole (b := (base 30 19)) [0, 1, 4, 5] [(0, (.str (s))), (1, (.int .u8 10)), (4, (.int .i64 0)), (5, (.int .i64 ((↑(List.length s) : Int) - 1)))] Heap.empty [((-9223372036854775808 ≤ (↑(List.length s) : Int) - 1) ∧ ((↑(List.length s) : Int) - 1 ≤ 9223372036854775807))] (by kernel_rfl) (.cons (by omega) .nil) ?_
  refine Wc.block ?_
  refine Wc.loop (α := Nat) (fun k => (base 30 19).on [(0, .str s), (1, .int .u8 10), (4, .int .i64 0), (5, .int .i64 ((k : Int) - 1))]) (fun _ => Heap.empty) (fun k => k ≤ s.length ∧ lastB 10 s = lastB 10 (s.take k)) (fun k => k) s.length (Le.refl _) rfl ⟨Nat.le_refl _, by rw [List.take_length]⟩ ?_
  rintro k ⟨hk, hl⟩
  refine Wc.seq ?_
  refine Wc.seq ?_
  refine Wc.whole (b := (base 30 19)) [0, 1, 4, 5, 10] [(0, (.str (s))), (1, (.int .u8 10)), (4, (.int .i64 0)), (5, (.int .i64 ((↑k : Int) - 1))), (10, (.bool (decide (0 ≤ (↑k : Int) - 1))))] Heap.empty [] (by kernel_rfl) .nil ?_
  refine Wc.condP (p := 0 ≤ (↑k : Int) - 1) (by kernel_rfl) (by kernel_rfl) (fun c1 => ?_) (fun c1 => ?_)
  · refine Wc.skip ?_
    refine Wc.seq ?_
    refine Wc.block ?_
    refine Wc.seq ?_
    refine Wc.whole (b := (base 30 19)) [0, 1, 4, 5, 10, 17] [(0, (.str (s))), (1, (.int .u8 10)), (4, (.int .i64 0)), (5, (.int .i64 ((↑k : Int) - 1))), (10, (.bool (decide (0 ≤ (↑k : Int) - 1)))), (17, (.bool (decide (byteAt s ((↑k : Int) - 1) = 10))))] Heap.empty [(((0 : Int) ≤ (↑k : Int) - (1 : Int)) ∧ ((↑k : Int) - (1 : Int) < (↑(List.length s) : Int)))] (by kernel_rfl) (.cons (by omega) .nil) ?_
    refine Wc.condP (p := byteAt s ((↑k : Int) - 1) = 10) (by kernel_rfl) (by kernel_rfl) (fun c2 => ?_) (fun c2 => ?_)
    · refine Wc.seq ?_
      refine Wc.whole (b := (base 30 19)) [0, 1, 4, 5, 10, 17] [(0, (.str (s))), (1, (.int .u8 10)), (4, (.int .i64 ((↑k : Int) - 1))), (5, (.int .i64 ((↑k : Int) - 1))), (10, (.bool (decide (0 ≤ (↑k : Int) - 1)))), (17, (.bool (decide (byteAt s ((↑k : Int) - 1) = 10))))] Heap.empty [] (by kernel_rfl) .nil ?_
      refine Wc.ret ?_
      refine blockX.ret ?_
      refine blockX.ret ?_
      refine retX.mk (.int .i64 ((↑k : Int) - 1)) ⟨rfl, rfl⟩ (by kernel_rfl) ?_
      refine congrArg (fun x => some (V.int .i64 x)) ?_
      rw [hl, lastB_found (by omega) hk (by assumption)]
    · refine Wc.skip ?_
      refine Wc.whole (b := (base 30 19)) [0, 1, 4, 5, 10, 17] [(0, (.str (s))), (1, (.int .u8 10)), (4, (.int .i64 0)), (5, (.int .i64 ((↑k : Int) - 1 - 1))), (10, (.bool (decide (0 ≤ (↑k : Int) - 1)))), (17, (.bool (decide (byteAt s ((↑k : Int) - 1) = 10))))] Heap.empty [(((-9223372036854775808 : Int) ≤ (↑k : Int) - (1 : Int) - (1 : Int)) ∧ ((↑k : Int) - (1 : Int) - (1 : Int) ≤ (9223372036854775807 : Int)))] (by kernel_rfl) (.cons (by omega) .nil) ?_
      refine ⟨k - 1, ?_, rfl, ⟨by omega, by rw [hl, lastB_not (by omega) hk (by assumption)]⟩, by omega⟩
      rw [show ((k - 1 : Nat) : Int) - 1 = (k : Int) - 1 - 1 by omega]
      exact Le.on [0, 1, 4, 5] (by kernel_rfl)
  · refine Wc.exit ?_
    refine blockX.here ?_
    refine Wc.seq ?_
    refine Wc.whole (b := (base 30 19)) [0, 1, 4, 5, 10] [(0, (.str (s))), (1, (.int .u8 10)), (4, (.int .i64 (-1))), (5, (.int .i64 ((↑k : Int) - 1))), (10, (.bool (decide (0 ≤ (↑k : Int) - 1))))] Heap.empty [] (by kernel_rfl) .nil ?_
    refine Wc.ret ?_
    refine retX.mk (.int .i64 (-1)) ⟨rfl, rfl⟩ (by kernel_rfl) ?_
    refine congrArg (fun x => some (V.int .i64 x)) ?_
    have : k = 0 := by omega
    subst this
    rw [hl]; rfl
theorem c17 (s : List UInt8) : Cp Tryd.prog EU 17 [.str s, .str [10]] (.int .i64 ((s.count 10 : Nat) : Int)) := by
  refine Cp.body (fn := Tryd.f17) Tryd.func17 rfl (by kernel_rfl) ?_
  refine Wc.seq ?_
  refine Wc.whole (b := (base 17 34)) [0, 1, 4] [(0, (.str (s))), (1, (.str [10])), (4, (.int .i64 0))] Heap.empty [] (by kernel_rfl) .nil ?_
  refine Wc.seq ?_
  refine Wc.seq ?_
  refine Wc.whole (b := (base 17 34)) [0, 1, 4, 9] [(0, (.str (s))), (1, (.str [10])), (4, (.int .i64 0)), (9, (.bool false))] Heap.empty [] (by kernel_rfl) .nil ?_
  refine Wc.condF (by kernel_rfl) (by kernel_rfl) ?_
  refine Wc.skip ?_
  refine Wc.seq ?_
  refine Wc.seq ?_
  refine Wc.whole (b := (base 17 34)) [0, 1, 4, 9, 15] [(0, (.str (s))), (1, (.str [10])), (4, (.int .i64 0)), (9, (.bool false)), (15, (.bool true))] Heap.empty [] (by kernel_rfl) .nil ?_
  refine Wc.condT (by kernel_rfl) (by kernel_rfl) ?_
  refine Wc.seq ?_
  refine Wc.enter ?_
  refine Wl.batch (b := (base 17 34)) 0 3 [0, 1, 4, 9, 15, 16, 18] [(0, (.str (s))), (1, (.str [10])), (4, (.int .i64 0)), (9, (.bool false)), (15, (.bool true)), (16, (.str (s))), (18, (.int .u8 10))] Heap.empty [(((0 : Int) ≤ (0 : Int)) ∧ ((0 : Int) < (1 : Int)))] (by kernel_rfl) rfl (.cons (by omega) .nil) ?_
  refine Wl.callP (b := (base 17 34)) (h1 := Heap.empty) (h2 := Heap.empty) (v := (.int .i64 ((↑(List.count 10 s) : Int)))) (d := (some 19)) 3 [0, 1, 4, 9, 15, 19] [(0, (.str (s))), (1, (.str [10])), (4, (.int .i64 0)), (9, (.bool false)), (15, (.bool true)), (19, (.int .i64 ((↑(List.count 10 s) : Int))))] (@Go.AM.c28 (s)) (by kernel_rfl) (by kernel_rfl) (by kernel_rfl) ?_
  refine Wl.batch (b := (base 17 34)) 4 5 [0, 1, 4, 9, 15] [(0, (.str (s))), (1, (.str [10])), (4, (.int .i64 ((↑(List.count 10 s) : Int)))), (9, (.bool false)), (15, (.bool true))] Heap.empty [] (by kernel_rfl) rfl .nil ?_
  refine Wl.done 5 rfl ?_
  refine Wc.ret ?_
  refine retX.mk (.int .i64 ((↑(List.count 10 s) : Int))) ⟨rfl, rfl⟩ (by kernel_rfl) ?_
  kernel_rfl
theorem c18 (s : List UInt8) (hs : s.length ≤ 1099511627776) : Cp Tryd.prog EU 18 [.str s, .str [10]] (.int .i64 (lastB 10 s)) := by
  refine Cp.body (fn := Tryd.f18) Tryd.func18 rfl (by kernel_rfl) ?_
  refine Wc.seq ?_
  refine Wc.whole (b := (base 18 36)) [0, 1, 4] [(0, (.str (s))), (1, (.str [10])), (4, (.int .i64 0))] Heap.empty [] (by kernel_rfl) .nil ?_
  refine Wc.seq ?_
  refine Wc.whole (b := (base 18 36)) [0, 1, 4, 5] [(0, (.str (s))), (1, (.str [10])), (4, (.int .i64 0)), (5, (.int .i64 1))] Heap.empty [] (by kernel_rfl) .nil ?_
  refine Wc.seq ?_
  refine Wc.block ?_
  refine Wc.seq ?_
  refine Wc.whole (b := (base 18 36)) [0, 1, 4, 5, 8] [(0, (.str (s))), (1, (.str [10])), (4, (.int .i64 0)), (5, (.int .i64 1)), (8, (.bool false))] Heap.empty [] (by kernel_rfl) .nil ?_
  refine Wc.condF (by kernel_rfl) (by kernel_rfl) ?_
  refine Wc.seq ?_
  refine Wc.whole (b := (base 18 36)) [0, 1, 4, 5, 8, 13] [(0, (.str (s))), (1, (.str [10])), (4, (.int .i64 0)), (5, (.int .i64 1)), (8, (.bool false)), (13, (.bool true))] Heap.empty [] (by kernel_rfl) .nil ?_
  refine Wc.condT (by kernel_rfl) (by kernel_rfl) ?_
  refine Wc.seq ?_
  refine Wc.enter ?_
  refine Wl.batch (b := (base 18 36)) 0 3 [0, 1, 4, 5, 8, 13, 16, 18] [(0, (.str (s))), (1, (.str [10])), (4, (.int .i64 0)), (5, (.int .i64 1)), (8, (.bool false)), (13, (.bool true)), (16, (.str (s))), (18, (.int .u8 10))] Heap.empty [(((0 : Int) ≤ (0 : Int)) ∧ ((0 : Int) < (1 : Int)))] (by kernel_rfl) rfl (.cons (by omega) .nil) ?_
  refine Wl.callP (b := (base 18 36)) (h1 := Heap.empty) (h2 := Heap.empty) (v := (.int .i64 (lastB 10 s))) (d := (some 19)) 3 [0, 1, 4, 5, 8, 13, 19] [(0, (.str (s))), (1, (.str [10])), (4, (.int .i64 0)), (5, (.int .i64 1)), (8, (.bool false)), (13, (.bool true)), (19, (.int .i64 (lastB 10 s)))] (@Go.AM.c30 (s) (by assumption)) (by kernel_rfl) (by kernel_rfl) (by kernel_rfl) ?_
  refine Wl.batch (b := (base 18 36)) 4 5 [0, 1, 4, 5, 8, 13] [(0, (.str (s))), (1, (.str [10])), (4, (.int .i64 (lastB 10 s))), (5, (.int .i64 1)), (8, (.bool false)), (13, (.bool true))] Heap.empty [] (by kernel_rfl) rfl .nil ?_
  refine Wl.done 5 rfl ?_
  refine Wc.ret ?_
  refine blockX.ret ?_
  refine retX.mk (.int .i64 (lastB 10 s)) ⟨rfl, rfl⟩ (by kernel_rfl) ?_
  kernel_rfl
theorem c34 (s : List UInt8) : Cp Tryd.prog EU 34 [.str s, .str [239, 191, 189]] (.bool (decide (3 ≤ s.length ∧ s.take 3 = [239, 191, 189]))) := by
  refine Cp.body (fn := Tryd.f34) Tryd.func34 rfl (by kernel_rfl) ?_
  refine Wc.seq ?_
  refine Wc.whole (b := (base 34 18)) [0, 1, 4] [(0, (.str (s))), (1, (.str [239, 191, 189])), (4, (.bool false))] Heap.empty [] (by kernel_rfl) .nil ?_
  refine Wc.seq ?_
  refine Wc.enter ?_
  refine Wl.batch (b := (base 34 18)) 0 6 [0, 1, 4, 10] [(0, (.str (s))), (1, (.str [239, 191, 189])), (4, (.bool false)), (10, (.bool (decide (3 ≤ (↑(List.length s) : Int)))))] Heap.empty [] (by kernel_rfl) rfl .nil ?_
  refine Wl.join (b := (base 34 18)) (p := 3 ≤ (↑(List.length s) : Int)) [(0, (.str (s))), (1, (.str [239, 191, 189])), (4, (.bool (decide ((3 ≤ (↑(List.length s) : Int)) ∧ (List.take 3 s = [239, 191, 189])))))] Heap.empty (fun c1 => ?_) (fun c1 => ?_) ?_
  · refine Wl.known [(0, (.str (s))), (1, (.str [239, 191, 189])), (4, (.bool false)), (10, (.bool true))] (by have e := decide_eq_true c1; simp only [e] <;> kernel_rfl) ?_
    refine Wl.batch (b := (base 34 18)) 6 14 [0, 1, 4] [(0, (.str (s))), (1, (.str [239, 191, 189])), (4, (.bool (decide (List.take 3 s = [239, 191, 189]))))] Heap.empty [(((0 : Int) ≤ (3 : Int)) ∧ ((3 : Int) ≤ (↑(List.length s) : Int)))] (by kernel_rfl) rfl (.cons (by omega) .nil) ?_
    refine Wl.done 14 rfl ?_
    exact ⟨Le.on' [0, 1, 4] [(0, (.str (s))), (1, (.str [239, 191, 189])), (4, (.bool (decide (List.take 3 s = [239, 191, 189]))))] (by kernel_rfl) (by rw [decAnd c1] <;> kernel_rfl), by kernel_rfl⟩
  · refine Wl.known [(0, (.str (s))), (1, (.str [239, 191, 189])), (4, (.bool false)), (10, (.bool false))] (by have e := decide_eq_false c1; simp only [e] <;> kernel_rfl) ?_
    refine Wl.batch (b := (base 34 18)) 6 14 [0, 1, 4] [(0, (.str (s))), (1, (.str [239, 191, 189])), (4, (.bool false))] Heap.empty [] (by kernel_rfl) rfl .nil ?_
    refine Wl.done 14 rfl ?_
    exact ⟨Le.on' [0, 1, 4] [(0, (.str (s))), (1, (.str [239, 191, 189])), (4, (.bool false))] (by kernel_rfl) (by rw [decAndF c1] <;> kernel_rfl), by kernel_rfl⟩
  refine Wc.ret ?_
  refine retX.mk (.bool (decide (3 ≤ (↑(List.length s) : Int) ∧ List.take 3 s = [239, 191, 189]))) ⟨rfl, rfl⟩ (by kernel_rfl) ?_
  refine congrArg (fun x => some (V.bool x)) ?_
  rw [decide_eq_decide]
  exact and_congr ⟨fun h => by omega, fun h => by omega⟩ Iff.rfl
theorem c26 (s : List UInt8) : Cp Tryd.prog EU 26 [.str s, .str [239, 191, 189]] (.bool (decide (3 ≤ s.length ∧ s.take 3 = [239, 191, 189]))) := by
  refine Cp.body (fn := Tryd.f26) Tryd.func26 rfl (by kernel_rfl) ?_
  refine Wc.seq ?_
  refine Wc.whole (b := (base 26 8)) [0, 1, 4] [(0, (.str (s))), (1, (.str [239, 191, 189])), (4, (.bool false))] Heap.empty [] (by kernel_rfl) .nil ?_
  refine Wc.seq ?_
  refine Wc.enter ?_
  refine Wl.batch (b := (base 26 8)) 0 2 [0, 1, 4, 5, 6] [(0, (.str (s))), (1, (.str [239, 191, 189])), (4, (.bool false)), (5, (.str (s))), (6, (.str [239, 191, 189]))] Heap.empty [] (by kernel_rfl) rfl .nil ?_
  refine Wl.callP (b := (base 26 8)) (h1 := Heap.empty) (h2 := Heap.empty) (v := (.bool (decide (3 ≤ List.length s ∧ List.take 3 s = [239, 191, 189])))) (d := (some 7)) 2 [0, 1, 4, 7] [(0, (.str (s))), (1, (.str [239, 191, 189])), (4, (.bool false)), (7, (.bool (decide (3 ≤ List.length s ∧ List.take 3 s = [239, 191, 189]))))] (@Go.AM.c34 (s)) (by kernel_rfl) (by kernel_rfl) (by kernel_rfl) ?_
  refine Wl.batch (b := (base 26 8)) 3 4 [0, 1, 4] [(0, (.str (s))), (1, (.str [239, 191, 189])), (4, (.bool (decide (3 ≤ List.length s ∧ List.take 3 s = [239, 191, 189]))))] Heap.empty [] (by kernel_rfl) rfl .nil ?_
  refine Wl.done 4 rfl ?_
  refine Wc.ret ?_
  refine retX.mk (.bool (decide (3 ≤ List.length s ∧ List.take 3 s = [239, 191, 189]))) ⟨rfl, rfl⟩ (by kernel_rfl) ?_
  kernel_rfl
theorem c10 (s : List UInt8) (hs : s.length ≤ 1099511627776) (p : Int) (h0 : -4611686018427387904 ≤ p) (h1 : p ≤ 4611686018427387904) : Cp Tryd.prog EU 10 [.str s, .int .i64 p] (.tup [.int .i64 (placeL s p), .int .i64 (placeC s p), .bool (decide (placeOk s p))]) := by
  have hb := lastB_ge 10 (s.take p.toNat)
  refine Cp.body (fn := Tryd.f10) Tryd.func10 rfl (by kernel_rfl) ?_
  refine Wc.seq ?_
  refine Wc.whole (b := (base 10 26)) [0, 1, 4, 5, 6] [(0, (.str (s))), (1, (.int .i64 (p))), (4, (.int .i64 0)), (5, (.int .i64 0)), (6, (.bool false))] Heap.empty [] (by kernel_rfl) .nil ?_
  refine Wc.seq ?_
  refine Wc.seq ?_
  refine Wc.enter ?_
  refine Wl.batch (b := (base 10 26)) 0 3 [0, 1, 4, 5, 6, 10] [(0, (.str (s))), (1, (.int .i64 (p))), (4, (.int .i64 0)), (5, (.int .i64 0)), (6, (.bool false)), (10, (.bool (decide (p < 0))))] Heap.empty [] (by kernel_rfl) rfl .nil ?_
  refine Wl.join (b := (base 10 26)) (p := p < 0) [(0, (.str (s))), (1, (.int .i64 (p))), (4, (.int .i64 0)), (5, (.int .i64 0)), (6, (.bool false)), (15, (.bool (decide ((p < 0) ∨ ((↑(List.length s) : Int) < p)))))] Heap.empty (fun c1 => ?_) (fun c1 => ?_) ?_
  · refine Wl.known [(0, (.str (s))), (1, (.int .i64 (p))), (4, (.int .i64 0)), (5, (.int .i64 0)), (6, (.bool false)), (10, (.bool true))] (by have e := decide_eq_true c1; simp only [e] <;> kernel_rfl) ?_
    refine Wl.batch (b := (base 10 26)) 3 8 [0, 1, 4, 5, 6, 15] [(0, (.str (s))), (1, (.int .i64 (p))), (4, (.int .i64 0)), (5, (.int .i64 0)), (6, (.bool false)), (15, (.bool true))] Heap.empty [] (by kernel_rfl) rfl .nil ?_
    refine Wl.done 8 rfl ?_
    exact ⟨Le.on' [0, 1, 4, 5, 6, 15] [(0, (.str (s))), (1, (.int .i64 (p))), (4, (.int .i64 0)), (5, (.int .i64 0)), (6, (.bool false)), (15, (.bool true))] (by kernel_rfl) (by rw [decOr c1] <;> kernel_rfl), by kernel_rfl⟩
  · refine Wl.known [(0, (.str (s))), (1, (.int .i64 (p))), (4, (.int .i64 0)), (5, (.int .i64 0)), (6, (.bool false)), (10, (.bool false))] (by have e := decide_eq_false c1; simp only [e] <;> kernel_rfl) ?_
    refine Wl.batch (b := (base 10 26)) 3 8 [0, 1, 4, 5, 6, 15] [(0, (.str (s))), (1, (.int .i64 (p))), (4, (.int .i64 0)), (5, (.int .i64 0)), (6, (.bool false)), (15, (.bool (decide ((↑(List.length s) : Int) < p))))] Heap.empty [] (by kernel_rfl) rfl .nil ?_
    refine Wl.done 8 rfl ?_
    exact ⟨Le.on' [0, 1, 4, 5, 6, 15] [(0, (.str (s))), (1, (.int .i64 (p))), (4, (.int .i64 0)), (5, (.int .i64 0)), (6, (.bool false)), (15, (.bool (decide ((↑(List.length s) : Int) < p))))] (by kernel_rfl) (by rw [decOrF c1] <;> kernel_rfl), by kernel_rfl⟩
  refine Wc.condP (p := p < 0 ∨ (↑(List.length s) : Int) < p) (by kernel_rfl) (by kernel_rfl) (fun c2 => ?_) (fun c2 => ?_)
  · refine Wc.seq ?_
    refine Wc.whole (b := (base 10 26)) [0, 1, 4, 5, 6, 15] [(0, (.str (s))), (1, (.int .i64 (p))), (4, (.int .i64 0)), (5, (.int .i64 0)), (6, (.bool false)), (15, (.bool (decide (p < 0 ∨ (↑(List.length s) : Int) < p))))] Heap.empty [] (by kernel_rfl) .nil ?_
    refine Wc.ret ?_
    refine retX.mk (.tup [(.int .i64 0), (.int .i64 0), (.bool false)]) ⟨rfl, rfl⟩ (by kernel_rfl) ?_
    have hn : ¬ placeOk s p := by unfold placeOk; omega
    unfold placeL placeC
    rw [if_neg hn, if_neg hn, decide_eq_false hn]
    rfl
  · refine Wc.skip ?_
    refine Wc.seq ?_
    refine Wc.whole (b := (base 10 26)) [0, 1, 4, 5, 6, 7, 15] [(0, (.str (s))), (1, (.int .i64 (p))), (4, (.int .i64 0)), (5, (.int .i64 0)), (6, (.bool false)), (7, (.str (List.take (Int.toNat p) s))), (15, (.bool (decide (p < 0 ∨ (↑(List.length s) : Int) < p))))] Heap.empty [(((0 : Int) ≤ p) ∧ (p ≤ (↑(List.length s) : Int)))] (by kernel_rfl) (.cons (by omega) .nil) ?_
    refine Wc.seq ?_
    refine Wc.enter ?_
    refine Wl.batch (b := (base 10 26)) 0 1 [0, 1, 4, 5, 6, 7, 15, 19] [(0, (.str (s))), (1, (.int .i64 (p))), (4, (.int .i64 0)), (5, (.int .i64 0)), (6, (.bool false)), (7, (.str (List.take (Int.toNat p) s))), (15, (.bool (decide (p < 0 ∨ (↑(List.length s) : Int) < p)))), (19, (.str (List.take (Int.toNat p) s)))] Heap.empty [] (by kernel_rfl) rfl .nil ?_
    refine Wl.callP (b := (base 10 26)) (h1 := Heap.empty) (h2 := Heap.empty) (v := (.int .i64 ((↑(List.count 10 (List.take (Int.toNat p) s)) : Int)))) (d := (some 20)) 1 [0, 1, 4, 5, 6, 7, 15, 20] [(0, (.str (s))), (1, (.int .i64 (p))), (4, (.int .i64 0)), (5, (.int .i64 0)), (6, (.bool false)), (7, (.str (List.take (Int.toNat p) s))), (15, (.bool (decide (p < 0 ∨ (↑(List.length s) : Int) < p)))), (20, (.int .i64 ((↑(List.count 10 (List.take (Int.toNat p) s)) : Int))))] (@Go.AM.c17 (List.take (Int.toNat p) s)) (by kernel_rfl) (by kernel_rfl) (by kernel_rfl) ?_
    refine Wl.batch (b := (base 10 26)) 2 5 [0, 1, 4, 5, 6, 7, 15, 20, 22, 23] [(0, (.str (s))), (1, (.int .i64 (p))), (4, (.int .i64 0)), (5, (.int .i64 0)), (6, (.bool false)), (7, (.str (List.take (Int.toNat p) s))), (15, (.bool (decide (p < 0 ∨ (↑(List.length s) : Int) < p)))), (20, (.int .i64 ((↑(List.count 10 (List.take (Int.toNat p) s)) : Int)))), (22, (.int .i64 (p - 1))), (23, (.str (List.take (Int.toNat p) s)))] Heap.empty [(((-9223372036854775808 : Int) ≤ p - (1 : Int)) ∧ (p - (1 : Int) ≤ (9223372036854775807 : Int)))] (by kernel_rfl) rfl (.cons (by omega) .nil) ?_
    refine Wl.callP (b := (base 10 26)) (h1 := Heap.empty) (h2 := Heap.empty) (v := (.int .i64 (lastB 10 (List.take (Int.toNat p) s)))) (d := (some 24)) 5 [0, 1, 4, 5, 6, 7, 15, 20, 22, 24] [(0, (.str (s))), (1, (.int .i64 (p))), (4, (.int .i64 0)), (5, (.int .i64 0)), (6, (.bool false)), (7, (.str (List.take (Int.toNat p) s))), (15, (.bool (decide (p < 0 ∨ (↑(List.length s) : Int) < p)))), (20, (.int .i64 ((↑(List.count 10 (List.take (Int.toNat p) s)) : Int)))), (22, (.int .i64 (p - 1))), (24, (.int .i64 (lastB 10 (List.take (Int.toNat p) s))))] (@Go.AM.c18 (List.take (Int.toNat p) s) (by (simp only [List.length_take] at *; omega))) (by kernel_rfl) (by kernel_rfl) (by kernel_rfl) ?_
    refine Wl.batch (b := (base 10 26)) 6 10 [0, 1, 4, 5, 6, 7, 15] [(0, (.str (s))), (1, (.int .i64 (p))), (4, (.int .i64 ((↑(List.count 10 (List.take (Int.toNat p) s)) : Int)))), (5, (.int .i64 (p - 1 - lastB 10 (List.take (Int.toNat p) s)))), (6, (.bool true)), (7, (.str (List.take (Int.toNat p) s))), (15, (.bool (decide (p < 0 ∨ (↑(List.length s) : Int) < p))))] Heap.empty [(((-9223372036854775808 : Int) ≤ p - (1 : Int) - lastB (10 : UInt8) (List.take (Int.toNat p) s)) ∧ (p - (1 : Int) - lastB (10 : UInt8) (List.take (Int.toNat p) s) ≤ (9223372036854775807 : Int)))] (by kernel_rfl) rfl (.cons (by (simp only [List.length_take] at *; omega)) .nil) ?_
    refine Wl.done 10 rfl ?_
    refine Wc.ret ?_
    refine retX.mk (.tup [(.int .i64 ((↑(List.count 10 (List.take (Int.toNat p) s)) : Int))), (.int .i64 (p - 1 - lastB 10 (List.take (Int.toNat p) s))), (.bool true)]) ⟨rfl, rfl⟩ (by kernel_rfl) ?_
    have hy : placeOk s p := by unfold placeOk; omega
    have e := lastB_len s p.toNat (by omega)
    unfold placeL placeC
    rw [if_pos hy, if_pos hy, decide_eq_true hy, show p - 1 - lastB 10 (s.take p.toNat) = (lastLen (s.take p.toNat) : Int) by omega]
    rfl
theorem c16 (s : List UInt8) (hs : s.length ≤ 1099511627776) : Cp Tryd.prog EU 16 [.str s] (.int .i64 ((wide s : Nat) : Int)) := by
  refine Cp.body (fn := Tryd.f16) Tryd.func16 rfl (by kernel_rfl) ?_
  refine Wc.seq ?_
  refine Wc.whole (b := (base 16 11)) [0, 2] [(0, (.str (s))), (2, (.int .i64 0))] Heap.empty [] (by kernel_rfl) .nil ?_
  refine Wc.seq ?_
  refine Wc.whole (b := (base 16 11)) [0, 2, 3] [(0, (.str (s))), (2, (.int .i64 0)), (3, (.int .i64 0))] Heap.empty [] (by kernel_rfl) .nil ?_
  refine Wc.seq ?_
  refine Wc.seq ?_
  refine Wc.whole (b := (base 16 11)) [0, 2, 3, 5] [(0, (.str (s))), (2, (.int .i64 0)), (3, (.int .i64 0)), (5, (.iter 0))] (hp [.siter (s) 0]) [] (by kernel_rfl) .nil ?_
  refine Wc.block ?_
  refine Wc.loop (α := Nat × Nat) (fun a => (base 16 11).on [(0, .str s), (2, .int .i64 0), (3, .int .i64 (a.2 : Int)), (5, .iter 0)]) (fun a => hp [.siter s a.1]) (fun a => a.1 ≤ s.length ∧ a.2 ≤ a.1 ∧ wide s = a.2 + wide (s.drop a.1)) (fun a => s.length - a.1) (0, 0) (Le.refl _) rfl ⟨Nat.zero_le _, Nat.le_refl _, by rw [List.drop_zero, Nat.zero_add]⟩ ?_
  rintro ⟨p, n⟩ ⟨hq, hn, hw⟩
  simp only at hq hn hw ⊢
  refine Wc.seq ?_
  refine Wc.enter ?_
  refine Wl.next (b := (base 16 11)) (d := (some 6)) 0 0 (s) (p) (hp [.siter (s) (p + lenAt s p)]) [0, 2, 3, 5, 6] [(0, (.str (s))), (2, (.int .i64 0)), (3, (.int .i64 ((↑n : Int)))), (5, (.iter 0)), (6, (.tup [(.bool true), (.int .i64 ((↑p : Int))), (.int .i32 ((↑(runeAt s p) : Int)))]))] [(0, (.str (s))), (2, (.int .i64 0)), (3, (.int .i64 ((↑n : Int)))), (5, (.iter 0)), (6, (.tup [(.bool false)]))] (by kernel_rfl) (by kernel_rfl) (by kernel_rfl) (by kernel_rfl) (fun c1 => ?_) (fun c1 => ?_)
  · refine Wl.batch (b := (base 16 11)) 1 2 [0, 2, 3, 5, 7] [(0, (.str (s))), (2, (.int .i64 0)), (3, (.int .i64 ((↑n : Int)))), (5, (.iter 0)), (7, (.bool true))] (hp [.siter (s) (p + lenAt s p)]) [] (by kernel_rfl) rfl .nil ?_
    refine Wl.done 2 rfl ?_
    refine Wc.seq ?_
    refine Wc.condT (by kernel_rfl) (by kernel_rfl) ?_
    refine Wc.skip ?_
    refine Wc.block ?_
    refine Wc.whole (b := (base 16 11)) [0, 2, 3, 5, 7] [(0, (.str (s))), (2, (.int .i64 0)), (3, (.int .i64 ((↑n : Int) + 1))), (5, (.iter 0)), (7, (.bool true))] (hp [.siter (s) (p + lenAt s p)]) [(((-9223372036854775808 : Int) ≤ (↑n : Int) + (1 : Int)) ∧ ((↑n : Int) + (1 : Int) ≤ (9223372036854775807 : Int)))] (by kernel_rfl) (.cons (by omega) .nil) ?_
    have h1 := next_le c1
    refine ⟨(p + lenAt s p, n + 1), Le.on [0, 2, 3, 5] (by kernel_rfl), rfl, ⟨h1.1, by show n + 1 ≤ p + lenAt s p; omega, ?_⟩, by show s.length - (p + lenAt s p) < s.length - p; omega⟩
    show wide s = n + 1 + wide (s.drop (p + lenAt s p))
    rw [hw, wide_next c1]; omega
  · refine Wl.batch (b := (base 16 11)) 1 2 [0, 2, 3, 5, 7] [(0, (.str (s))), (2, (.int .i64 0)), (3, (.int .i64 ((↑n : Int)))), (5, (.iter 0)), (7, (.bool false))] (hp [.siter (s) (p)]) [] (by kernel_rfl) rfl .nil ?_
    refine Wl.done 2 rfl ?_
    refine Wc.seq ?_
    refine Wc.condF (by kernel_rfl) (by kernel_rfl) ?_
    refine Wc.exit ?_
    refine blockX.here ?_
    refine Wc.seq ?_
    refine Wc.whole (b := (base 16 11)) [0, 2, 3, 5, 7] [(0, (.str (s))), (2, (.int .i64 ((↑n : Int)))), (3, (.int .i64 ((↑n : Int)))), (5, (.iter 0)), (7, (.bool false))] (hp [.siter (s) (p)]) [] (by kernel_rfl) .nil ?_
    refine Wc.ret ?_
    refine retX.mk (.int .i64 ((↑n : Int))) ⟨rfl, rfl⟩ (by kernel_rfl) ?_
    refine congrArg (fun x => some (V.int .i64 x)) ?_
    rw [hw, List.drop_eq_nil_of_le (by omega), wide_nil]; rfl
theorem c15 (s : List UInt8) : Cp Tryd.prog EU 15 [.str s] (.int .i64 (chk s)) := by
  refine Cp.body (fn := Tryd.f15) Tryd.func15 rfl (by kernel_rfl) ?_
  refine Wc.seq ?_
  refine Wc.whole (b := (base 15 21)) [0, 2] [(0, (.str (s))), (2, (.int .i64 0))] Heap.empty [] (by kernel_rfl) .nil ?_
  refine Wc.seq ?_
  refine Wc.seq ?_
  refine Wc.whole (b := (base 15 21)) [0, 2, 6] [(0, (.str (s))), (2, (.int .i64 0)), (6, (.iter 0))] (hp [.siter (s) 0]) [] (by kernel_rfl) .nil ?_
  refine Wc.block ?_
  refine Wc.loop (α := Nat) (fun a => (base 15 21).on [(0, .str s), (2, .int .i64 0), (6, .iter 0)]) (fun a => hp [.siter s a]) (fun a => a ≤ s.length ∧ chk s = if chk (s.drop a) < 0 then -1 else chk (s.drop a) + a) (fun a => s.length - a) 0 (Le.refl _) rfl ⟨Nat.zero_le _, by rw [List.drop_zero]; have := chk_ge s; split <;> omega⟩ ?_
  rintro p ⟨hq, hc⟩
  refine Wc.seq ?_
  refine Wc.enter ?_
  refine Wl.next (b := (base 15 21)) (d := (some 7)) 0 0 (s) (p) (hp [.siter (s) (p + lenAt s p)]) [0, 2, 6, 7] [(0, (.str (s))), (2, (.int .i64 0)), (6, (.iter 0)), (7, (.tup [(.bool true), (.int .i64 ((↑p : Int))), (.int .i32 ((↑(runeAt s p) : Int)))]))] [(0, (.str (s))), (2, (.int .i64 0)), (6, (.iter 0)), (7, (.tup [(.bool false)]))] (by kernel_rfl) (by kernel_rfl) (by kernel_rfl) (by kernel_rfl) (fun c1 => ?_) (fun c1 => ?_)
  · refine Wl.batch (b := (base 15 21)) 1 2 [0, 2, 6, 7, 8] [(0, (.str (s))), (2, (.int .i64 0)), (6, (.iter 0)), (7, (.tup [(.bool true), (.int .i64 ((↑p : Int))), (.int .i32 ((↑(runeAt s p) : Int)))])), (8, (.bool true))] (hp [.siter (s) (p + lenAt s p)]) [] (by kernel_rfl) rfl .nil ?_
    refine Wl.done 2 rfl ?_
    refine Wc.seq ?_
    refine Wc.condT (by kernel_rfl) (by kernel_rfl) ?_
    refine Wc.skip ?_
    refine Wc.block ?_
    refine Wc.seq ?_
    refine Wc.whole (b := (base 15 21)) [0, 2, 3, 4, 6, 7, 8] [(0, (.str (s))), (2, (.int .i64 0)), (3, (.int .i64 ((↑p : Int)))), (4, (.int .i32 ((↑(runeAt s p) : Int)))), (6, (.iter 0)), (7, (.tup [(.bool true), (.int .i64 ((↑p : Int))), (.int .i32 ((↑(runeAt s p) : Int)))])), (8, (.bool true))] (hp [.siter (s) (p + lenAt s p)]) [] (by kernel_rfl) .nil ?_
    refine Wc.seq ?_
    refine Wc.enter ?_
    refine Wl.batch (b := (base 15 21)) 0 3 [0, 2, 3, 4, 6, 7, 8, 13] [(0, (.str (s))), (2, (.int .i64 0)), (3, (.int .i64 ((↑p : Int)))), (4, (.int .i32 ((↑(runeAt s p) : Int)))), (6, (.iter 0)), (7, (.tup [(.bool true), (.int .i64 ((↑p : Int))), (.int .i32 ((↑(runeAt s p) : Int)))])), (8, (.bool true)), (13, (.bool (decide ((↑(runeAt s p) : Int) = 65533))))] (hp [.siter (s) (p + lenAt s p)]) [] (by kernel_rfl) rfl .nil ?_
    refine Wl.join (b := (base 15 21)) (p := (↑(runeAt s p) : Int) = 65533) [(0, (.str (s))), (2, (.int .i64 0)), (3, (.int .i64 ((↑p : Int)))), (4, (.int .i32 ((↑(runeAt s p) : Int)))), (6, (.iter 0)), (7, (.tup [(.bool true), (.int .i64 ((↑p : Int))), (.int .i32 ((↑(runeAt s p) : Int)))])), (8, (.bool true)), (19, (.bool (decide (((↑(runeAt s p) : Int) = 65533) ∧ (¬ (3 ≤ List.length (List.drop p s) ∧ List.take 3 (List.drop p s) = [239, 191, 189]))))))] (hp [.siter (s) (p + lenAt s p)]) (fun c2 => ?_) (fun c2 => ?_) ?_
    · refine Wl.known [(0, (.str (s))), (2, (.int .i64 0)), (3, (.int .i64 ((↑p : Int)))), (4, (.int .i32 ((↑(runeAt s p) : Int)))), (6, (.iter 0)), (7, (.tup [(.bool true), (.int .i64 ((↑p : Int))), (.int .i32 ((↑(runeAt s p) : Int)))])), (8, (.bool true)), (13, (.bool true))] (by have e := decide_eq_true c2; simp only [e] <;> kernel_rfl) ?_
      refine Wl.batch (b := (base 15 21)) 3 6 [0, 2, 3, 4, 6, 7, 8, 13, 16] [(0, (.str (s))), (2, (.int .i64 0)), (3, (.int .i64 ((↑p : Int)))), (4, (.int .i32 ((↑(runeAt s p) : Int)))), (6, (.iter 0)), (7, (.tup [(.bool true), (.int .i64 ((↑p : Int))), (.int .i32 ((↑(runeAt s p) : Int)))])), (8, (.bool true)), (13, (.bool true)), (16, (.str (List.drop p s)))] (hp [.siter (s) (p + lenAt s p)]) [(((0 : Int) ≤ (↑p : Int)) ∧ ((↑p : Int) ≤ (↑(List.length s) : Int)))] (by kernel_rfl) rfl (.cons (by omega) .nil) ?_
      refine Wl.callP (b := (base 15 21)) (h1 := (hp [.siter (s) (p + lenAt s p)])) (h2 := (hp [.siter (s) (p + lenAt s p)])) (v := (.bool (decide (3 ≤ List.length (List.drop p s) ∧ List.take 3 (List.drop p s) = [239, 191, 189])))) (d := (some 17)) 6 [0, 2, 3, 4, 6, 7, 8, 13, 17] [(0, (.str (s))), (2, (.int .i64 0)), (3, (.int .i64 ((↑p : Int)))), (4, (.int .i32 ((↑(runeAt s p) : Int)))), (6, (.iter 0)), (7, (.tup [(.bool true), (.int .i64 ((↑p : Int))), (.int .i32 ((↑(runeAt s p) : Int)))])), (8, (.bool true)), (13, (.bool true)), (17, (.bool (decide (3 ≤ List.length (List.drop p s) ∧ List.take 3 (List.drop p s) = [239, 191, 189]))))] (@Go.AM.c26 (List.drop p s)) (by kernel_rfl) (by kernel_rfl) (by kernel_rfl) ?_
      refine Wl.batch (b := (base 15 21)) 7 9 [0, 2, 3, 4, 6, 7, 8, 19] [(0, (.str (s))), (2, (.int .i64 0)), (3, (.int .i64 ((↑p : Int)))), (4, (.int .i32 ((↑(runeAt s p) : Int)))), (6, (.iter 0)), (7, (.tup [(.bool true), (.int .i64 ((↑p : Int))), (.int .i32 ((↑(runeAt s p) : Int)))])), (8, (.bool true)), (19, (.bool (!decide (3 ≤ List.length (List.drop p s) ∧ List.take 3 (List.drop p s) = [239, 191, 189]))))] (hp [.siter (s) (p + lenAt s p)]) [] (by kernel_rfl) rfl .nil ?_
      refine Wl.done 9 rfl ?_
      exact ⟨Le.on' [0, 2, 3, 4, 6, 7, 8, 19] [(0, (.str (s))), (2, (.int .i64 0)), (3, (.int .i64 ((↑p : Int)))), (4, (.int .i32 ((↑(runeAt s p) : Int)))), (6, (.iter 0)), (7, (.tup [(.bool true), (.int .i64 ((↑p : Int))), (.int .i32 ((↑(runeAt s p) : Int)))])), (8, (.bool true)), (19, (.bool (!decide (3 ≤ List.length (List.drop p s) ∧ List.take 3 (List.drop p s) = [239, 191, 189]))))] (by kernel_rfl) (by rw [decAndN c2] <;> kernel_rfl), by kernel_rfl⟩
    · refine Wl.known [(0, (.str (s))), (2, (.int .i64 0)), (3, (.int .i64 ((↑p : Int)))), (4, (.int .i32 ((↑(runeAt s p) : Int)))), (6, (.iter 0)), (7, (.tup [(.bool true), (.int .i64 ((↑p : Int))), (.int .i32 ((↑(runeAt s p) : Int)))])), (8, (.bool true)), (13, (.bool false))] (by have e := decide_eq_false c2; simp only [e] <;> kernel_rfl) ?_
      refine Wl.batch (b := (base 15 21)) 3 9 [0, 2, 3, 4, 6, 7, 8, 19] [(0, (.str (s))), (2, (.int .i64 0)), (3, (.int .i64 ((↑p : Int)))), (4, (.int .i32 ((↑(runeAt s p) : Int)))), (6, (.iter 0)), (7, (.tup [(.bool true), (.int .i64 ((↑p : Int))), (.int .i32 ((↑(runeAt s p) : Int)))])), (8, (.bool true)), (19, (.bool false))] (hp [.siter (s) (p + lenAt s p)]) [] (by kernel_rfl) rfl .nil ?_
      refine Wl.done 9 rfl ?_
      exact ⟨Le.on' [0, 2, 3, 4, 6, 7, 8, 19] [(0, (.str (s))), (2, (.int .i64 0)), (3, (.int .i64 ((↑p : Int)))), (4, (.int .i32 ((↑(runeAt s p) : Int)))), (6, (.iter 0)), (7, (.tup [(.bool true), (.int .i64 ((↑p : Int))), (.int .i32 ((↑(runeAt s p) : Int)))])), (8, (.bool true)), (19, (.bool false))] (by kernel_rfl) (by rw [decAndF c2] <;> kernel_rfl), by kernel_rfl⟩
    refine Wc.condP (p := (↑(runeAt s p) : Int) = 65533 ∧ ¬(3 ≤ List.length (List.drop p s) ∧ List.take 3 (List.drop p s) = [239, 191, 189])) (by kernel_rfl) (by kernel_rfl) (fun c3 => ?_) (fun c3 => ?_)
    · refine Wc.seq ?_
      refine Wc.whole (b := (base 15 21)) [0, 2, 3, 4, 6, 7, 8, 19] [(0, (.str (s))), (2, (.int .i64 ((↑p : Int)))), (3, (.int .i64 ((↑p : Int)))), (4, (.int .i32 ((↑(runeAt s p) : Int)))), (6, (.iter 0)), (7, (.tup [(.bool true), (.int .i64 ((↑p : Int))), (.int .i32 ((↑(runeAt s p) : Int)))])), (8, (.bool true)), (19, (.bool (decide ((↑(runeAt s p) : Int) = 65533 ∧ ¬(3 ≤ List.length (List.drop p s) ∧ List.take 3 (List.drop p s) = [239, 191, 189])))))] (hp [.siter (s) (p + lenAt s p)]) [] (by kernel_rfl) .nil ?_
      refine Wc.ret ?_
      refine blockX.ret ?_
      refine blockX.ret ?_
      refine retX.mk (.int .i64 ((↑p : Int))) ⟨rfl, rfl⟩ (by kernel_rfl) ?_
      refine congrArg (fun x => some (V.int .i64 x)) ?_
      rw [hc, bad_at c1 c3]; simp
    · refine Wc.skip ?_
      have h1 := next_le c1
      exact ⟨p + lenAt s p, Le.on [0, 2, 6] (by kernel_rfl), rfl, ⟨h1.1, chk_step hc (good_at c1 c3)⟩, by omega⟩
  · refine Wl.batch (b := (base 15 21)) 1 2 [0, 2, 6, 7, 8] [(0, (.str (s))), (2, (.int .i64 0)), (6, (.iter 0)), (7, (.tup [(.bool false)])), (8, (.bool false))] (hp [.siter (s) (p)]) [] (by kernel_rfl) rfl .nil ?_
    refine Wl.done 2 rfl ?_
    refine Wc.seq ?_
    refine Wc.condF (by kernel_rfl) (by kernel_rfl) ?_
    refine Wc.exit ?_
    refine blockX.here ?_
    refine Wc.seq ?_
    refine Wc.whole (b := (base 15 21)) [0, 2, 6, 7, 8] [(0, (.str (s))), (2, (.int .i64 (-1))), (6, (.iter 0)), (7, (.tup [(.bool false)])), (8, (.bool false))] (hp [.siter (s) (p)]) [] (by kernel_rfl) .nil ?_
    refine Wc.ret ?_
    refine retX.mk (.int .i64 (-1)) ⟨rfl, rfl⟩ (by kernel_rfl) ?_
    refine congrArg (fun x => some (V.int .i64 x)) ?_
    rw [hc, List.drop_eq_nil_of_le (by omega), chk_nil]; rfl
theorem c13 (s : List UInt8) (hs : s.length ≤ 1000) : Cp Tryd.prog EU 13 [.str s] (.fsl 9 1 0 ((linesOf s).map .str) none) := by
  refine Cp.body (fn := Tryd.f13) Tryd.func13 rfl (by kernel_rfl) ?_
  refine Wc.seq ?_
  refine Wc.whole (b := (base 13 13)) [0, 2] [(0, (.str (s))), (2, .nils)] Heap.empty [] (by kernel_rfl) .nil ?_
  refine Wc.seq ?_
  refine Wc.whole (b := (base 13 13)) [0, 2, 3] [(0, (.str (s))), (2, .nils), (3, (.ptr 0 0 0))] (hp [.row 0 30 1 0 (some 1) [.nils]]) [] (by kernel_rfl) .nil ?_
  refine Wc.seq ?_
  refine Wc.seq ?_
  refine Wc.enter ?_
  refine Wl.batch (b := (base 13 13)) 0 1 [0, 2, 3, 5] [(0, (.str (s))), (2, .nils), (3, (.ptr 0 0 0)), (5, (.str (s)))] (hp [.row 0 30 1 0 (some 1) [.nils]]) [] (by kernel_rfl) rfl .nil ?_
  refine Wl.callI (b := (base 13 13)) (h1 := (hp [.row 0 30 1 0 (some 1) [.nils]])) (args := [(.str (s)), (.str [10])]) (d := (some 6)) (fn := Go.Proofs.Tryd.f19) 1 Go.Proofs.Tryd.func19 rfl (by kernel_rfl) (by kernel_rfl) ?_
  refine Wc.seq ?_
  refine Wc.whole (b := (base 19 8)) [0, 1, 4] [(0, (.str (s))), (1, (.str [10])), (4, .nilf)] (hp [.row 0 30 1 0 (some 1) [.nils]]) [] (by kernel_rfl) .nil ?_
  refine Wc.seq ?_
  refine Wc.enter ?_
  refine Wl.batch (b := (base 19 8)) 0 2 [0, 1, 4, 5, 6] [(0, (.str (s))), (1, (.str [10])), (4, .nilf), (5, (.str (s))), (6, (.str [10]))] (hp [.row 0 30 1 0 (some 1) [.nils]]) [] (by kernel_rfl) rfl .nil ?_
  refine Wl.callI (b := (base 19 8)) (h1 := (hp [.row 0 30 1 0 (some 1) [.nils]])) (args := [(.str (s)), (.str [10]), (.int .i64 0)]) (d := (some 7)) (fn := Go.Proofs.Tryd.f32) 2 Go.Proofs.Tryd.func32 rfl (by kernel_rfl) (by kernel_rfl) ?_
  refine Wc.seq ?_
  refine Wc.whole (b := (base 32 8)) [0, 1, 2, 3, 4, 5, 6] [(0, (.str (s))), (1, (.str [10])), (2, (.int .i64 0)), (3, (.ptr 1 0 0)), (4, (.ptr 2 0 0)), (5, (.ptr 3 0 0)), (6, .nilf)] (hp [.row 0 30 1 0 (some 1) [.nils], .row 0 9 1 0 (some 1) [(.str (s))], .row 0 9 1 0 (some 1) [(.str [10])], .row 0 3 1 0 (some 1) [(.int .i64 0)]]) [] (by kernel_rfl) .nil ?_
  refine Wc.seq ?_
  refine Wc.whole (b := (base 32 8)) [0, 1, 2, 3, 4, 5, 6] [(0, (.str (s))), (1, (.str [10])), (2, (.int .i64 0)), (3, (.ptr 1 0 0)), (4, (.ptr 2 0 0)), (5, (.ptr 3 0 0)), (6, (.func (.func 37) [] [(.ptr 2 0 0), (.ptr 1 0 0), (.ptr 3 0 0)]))] (hp [.row 0 30 1 0 (some 1) [.nils], .row 0 9 1 0 (some 1) [(.str (s))], .row 0 9 1 0 (some 1) [(.str [10])], .row 0 3 1 0 (some 1) [(.int .i64 0)]]) [] (by kernel_rfl) .nil ?_
  refine Wc.ret ?_
  refine retX.mk (.func (.func 37) [] [(.ptr 2 0 0), (.ptr 1 0 0), (.ptr 3 0 0)]) ⟨rfl, rfl⟩ (by kernel_rfl) ?_
  refine cNext.mk [0, 1, 4, 7] [(0, (.str (s))), (1, (.str [10])), (4, .nilf), (7, (.func (.func 37) [] [(.ptr 2 0 0), (.ptr 1 0 0), (.ptr 3 0 0)]))] (by kernel_rfl) ?_
  refine Wl.batch (b := (base 19 8)) 3 4 [0, 1, 4] [(0, (.str (s))), (1, (.str [10])), (4, (.func (.func 37) [] [(.ptr 2 0 0), (.ptr 1 0 0), (.ptr 3 0 0)]))] (hp [.row 0 30 1 0 (some 1) [.nils], .row 0 9 1 0 (some 1) [(.str (s))], .row 0 9 1 0 (some 1) [(.str [10])], .row 0 3 1 0 (some 1) [(.int .i64 0)]]) [] (by kernel_rfl) rfl .nil ?_
  refine Wl.done 4 rfl ?_
  refine Wc.ret ?_
  refine retX.mk (.func (.func 37) [] [(.ptr 2 0 0), (.ptr 1 0 0), (.ptr 3 0 0)]) ⟨rfl, rfl⟩ (by kernel_rfl) ?_
  refine cNext.mk [0, 2, 3, 6] [(0, (.str (s))), (2, .nils), (3, (.ptr 0 0 0)), (6, (.func (.func 37) [] [(.ptr 2 0 0), (.ptr 1 0 0), (.ptr 3 0 0)]))] (by kernel_rfl) ?_
  refine Wl.done 2 rfl ?_
  refine Wc.block ?_
  refine Wc.range (b := (base 13 13)) (g := 37) (args := [(.func (.yield 5) [] []), (.ptr 2 0 0), (.ptr 1 0 0), (.ptr 3 0 0)]) rfl rfl (by kernel_rfl) (by kernel_rfl) (fun tm1 hT2 => ?_)
  refine Ev.body (fn := Go.Proofs.Tryd.f37) Go.Proofs.Tryd.func37 rfl (by kernel_rfl) ?_
  refine Wc.seq ?_
  refine Wc.seq ?_
  refine Wc.whole (b := (base 37 52)) [0, 1, 2, 3, 11] [(0, (.func (.yield 5) [] [])), (1, (.ptr 2 0 0)), (2, (.ptr 1 0 0)), (3, (.ptr 3 0 0)), (11, (.bool false))] (hp [.row 0 30 1 0 (some 1) [.nils], .row 0 9 1 0 (some 1) [(.str (s))], .row 0 9 1 0 (some 1) [(.str [10])], .row 0 3 1 0 (some 1) [(.int .i64 0)], .defs, .loop .ready none 13 13 tm1 [7] (rAs Tryd.prog 13 0) (rBd Tryd.prog 13 0) 4]) [] (by kernel_rfl) .nil ?_
  refine Wc.condF (by kernel_rfl) (by kernel_rfl) ?_
  refine Wc.skip ?_
  refine Wc.seq ?_
  refine Wc.block ?_
  refine Wc.loop (α := Option (List (List UInt8) × List UInt8)) (fun a => (base 37 52).on [(0, (.func (.yield 5) [] [])), (1, (.ptr 2 0 0)), (2, (.ptr 1 0 0)), (3, (.ptr 3 0 0))])
    (fun a => match a with
      | none => (hp [.row 0 30 1 0 (some 1) [.nils], .row 0 9 1 0 (some 1) [(.str (s))], .row 0 9 1 0 (some 1) [(.str [10])], .row 0 3 1 0 (some 1) [(.int .i64 0)], .defs, .loop .ready none 13 13 tm1 [7] (rAs Tryd.prog 13 0) (rBd Tryd.prog 13 0) 4])
      | some (d, r) => (hp [.row 0 30 1 0 (some 1) [.sl 6 (d.length - 1) 0 d.length none], .row 0 9 1 0 (some 1) [(.str r)], .row 0 9 1 0 (some 1) [(.str [10])], .row 0 3 1 0 (some 1) [(.int .i64 0)], .defs, .loop .ready none 13 13 tm1 [7] (rAs Tryd.prog 13 0) (rBd Tryd.prog 13 0) 4, .row (d.length - 1) 9 1 0 none (d.map .str)]))
    (fun a => match a with
      | none => True
      | some (d, r) => d ≠ [] ∧ linesOf s = d ++ linesOf r ∧ r.length + d.length ≤ s.length)
    (fun a => match a with
      | none => s.length + 1
      | some (d, r) => r.length) none (Le.on [0, 1, 2, 3] (by kernel_rfl)) (by kernel_rfl) trivial ?_
  rintro (_ | ⟨d, r⟩) hI
  · simp only at hI ⊢
    have hf := find_le s
    refine Wc.block ?_
    refine Wc.seq ?_
    refine Wc.enter ?_
    refine Wl.batch (b := (base 37 52)) 0 2 [0, 1, 2, 3, 29, 30] [(0, (.func (.yield 5) [] [])), (1, (.ptr 2 0 0)), (2, (.ptr 1 0 0)), (3, (.ptr 3 0 0)), (29, (.str (s))), (30, (.str [10]))] (hp [.row 0 30 1 0 (some 1) [.nils], .row 0 9 1 0 (some 1) [(.str (s))], .row 0 9 1 0 (some 1) [(.str [10])], .row 0 3 1 0 (some 1) [(.int .i64 0)], .defs, .loop .ready none 13 13 tm1 [7] (rAs Tryd.prog 13 0) (rBd Tryd.prog 13 0) 4]) [] (by kernel_rfl) rfl .nil ?_
    refine Wl.callP (b := (base 37 52)) (h1 := (hp [.row 0 30 1 0 (some 1) [.nils], .row 0 9 1 0 (some 1) [(.str (s))], .row 0 9 1 0 (some 1) [(.str [10])], .row 0 3 1 0 (some 1) [(.int .i64 0)], .defs, .loop .ready none 13 13 tm1 [7] (rAs Tryd.prog 13 0) (rBd Tryd.prog 13 0) 4])) (h2 := (hp [.row 0 30 1 0 (some 1) [.nils], .row 0 9 1 0 (some 1) [(.str (s))], .row 0 9 1 0 (some 1) [(.str [10])], .row 0 3 1 0 (some 1) [(.int .i64 0)], .defs, .loop .ready none 13 13 tm1 [7] (rAs Tryd.prog 13 0) (rBd Tryd.prog 13 0) 4])) (v := (.int .i64 (findByte 10 s 0))) (d := (some 31)) 2 [0, 1, 2, 3, 31] [(0, (.func (.yield 5) [] [])), (1, (.ptr 2 0 0)), (2, (.ptr 1 0 0)), (3, (.ptr 3 0 0)), (31, (.int .i64 (findByte 10 s 0)))] (@Go.AM.c29 (s)) (by kernel_rfl) (by kernel_rfl) (by kernel_rfl) ?_
    refine Wl.batch (b := (base 37 52)) 3 4 [0, 1, 2, 3, 7] [(0, (.func (.yield 5) [] [])), (1, (.ptr 2 0 0)), (2, (.ptr 1 0 0)), (3, (.ptr 3 0 0)), (7, (.int .i64 (findByte 10 s 0)))] (hp [.row 0 30 1 0 (some 1) [.nils], .row 0 9 1 0 (some 1) [(.str (s))], .row 0 9 1 0 (some 1) [(.str [10])], .row 0 3 1 0 (some 1) [(.int .i64 0)], .defs, .loop .ready none 13 13 tm1 [7] (rAs Tryd.prog 13 0) (rBd Tryd.prog 13 0) 4]) [] (by kernel_rfl) rfl .nil ?_
    refine Wl.done 4 rfl ?_
    refine Wc.seq ?_
    refine Wc.seq ?_
    refine Wc.whole (b := (base 37 52)) [0, 1, 2, 3, 7, 33] [(0, (.func (.yield 5) [] [])), (1, (.ptr 2 0 0)), (2, (.ptr 1 0 0)), (3, (.ptr 3 0 0)), (7, (.int .i64 (findByte 10 s 0))), (33, (.bool (decide (findByte 10 s 0 < 0))))] (hp [.row 0 30 1 0 (some 1) [.nils], .row 0 9 1 0 (some 1) [(.str (s))], .row 0 9 1 0 (some 1) [(.str [10])], .row 0 3 1 0 (some 1) [(.int .i64 0)], .defs, .loop .ready none 13 13 tm1 [7] (rAs Tryd.prog 13 0) (rBd Tryd.prog 13 0) 4]) [] (by kernel_rfl) .nil ?_
    refine Wc.condP (p := findByte 10 s 0 < 0) (by kernel_rfl) (by kernel_rfl) (fun c1 => ?_) (fun c1 => ?_)
    · refine Wc.exit ?_
      refine blockX.out rfl ?_
      refine blockX.here ?_
      refine Wc.enter ?_
      refine Wl.batch (b := (base 37 52)) 0 2 [0, 1, 2, 3, 7, 33, 49, 50] [(0, (.func (.yield 5) [] [])), (1, (.ptr 2 0 0)), (2, (.ptr 1 0 0)), (3, (.ptr 3 0 0)), (7, (.int .i64 (findByte 10 s 0))), (33, (.bool (decide (findByte 10 s 0 < 0)))), (49, (.func (.yield 5) [] [])), (50, (.str (s)))] (hp [.row 0 30 1 0 (some 1) [.nils], .row 0 9 1 0 (some 1) [(.str (s))], .row 0 9 1 0 (some 1) [(.str [10])], .row 0 3 1 0 (some 1) [(.int .i64 0)], .defs, .loop .ready none 13 13 tm1 [7] (rAs Tryd.prog 13 0) (rBd Tryd.prog 13 0) 4]) [] (by kernel_rfl) rfl .nil ?_
      refine Wl.yield (b := (base 37 52)) (h1 := (hp [.row 0 30 1 0 (some 1) [.nils], .row 0 9 1 0 (some 1) [(.str (s))], .row 0 9 1 0 (some 1) [(.str [10])], .row 0 3 1 0 (some 1) [(.int .i64 0)], .defs, .loop .ready none 13 13 tm1 [7] (rAs Tryd.prog 13 0) (rBd Tryd.prog 13 0) 4])) (l := 5) (args := [(.str (s))]) (d := (some 51)) (st := .ready) (pd0 := none) (fn := 13) (n := 13) (tm := tm1) (ps := [7]) (ag := (rAs Tryd.prog 13 0)) (bd := (rBd Tryd.prog 13 0)) (dd := 4) 2 [0, 2, 3, 6, 7] [(0, (.str (s))), (2, .nils), (3, (.ptr 0 0 0)), (6, (.func (.func 37) [] [(.ptr 2 0 0), (.ptr 1 0 0), (.ptr 3 0 0)])), (7, (.str (s)))] hT2 (by kernel_rfl) (by kernel_rfl) (by kernel_rfl) ?_
      refine Wc.whole (b := (roundB 13 13 5)) [0, 2, 3, 4, 6, 7] [(0, (.str (s))), (2, .nils), (3, (.ptr 0 0 0)), (4, (.str (s))), (6, (.func (.func 37) [] [(.ptr 2 0 0), (.ptr 1 0 0), (.ptr 3 0 0)])), (7, (.str (s)))] (hp [.row 0 30 1 0 (some 1) [.nils], .row 0 9 1 0 (some 1) [(.str (s))], .row 0 9 1 0 (some 1) [(.str [10])], .row 0 3 1 0 (some 1) [(.int .i64 0)], .defs, .loop .ready none 13 13 tm1 [7] (rAs Tryd.prog 13 0) (rBd Tryd.prog 13 0) 4]) [] (by kernel_rfl) .nil ?_
      refine yBody.mk none (by kernel_rfl) ?_
      refine Wc.block ?_
      refine Wc.whole (b := (roundB 13 13 5)) [0, 2, 3, 4, 6, 7] [(0, (.str (s))), (2, .nils), (3, (.ptr 0 0 0)), (4, (.str (s))), (6, (.func (.func 37) [] [(.ptr 2 0 0), (.ptr 1 0 0), (.ptr 3 0 0)])), (7, (.str (s)))] (hp [.row 0 30 1 0 (some 1) [(.sl 6 0 0 1 none)], .row 0 9 1 0 (some 1) [(.str (s))], .row 0 9 1 0 (some 1) [(.str [10])], .row 0 3 1 0 (some 1) [(.int .i64 0)], .defs, .loop .busy none 13 13 tm1 [7] (rAs Tryd.prog 13 0) (rBd Tryd.prog 13 0) 4, .row 0 9 1 0 none [(.str (s))]]) [(([V.str s] ≠ []) ∧ ((List.length [V.str s] ≤ (1099511627776 : Nat)) ∧ (List.length [V.str s] * (16 : Nat) ≤ (1099511627776 : Nat))))] (by kernel_rfl) (.cons (by simp) .nil) ?_
      refine yEnd.mk none (by kernel_rfl) ?_
      refine yNext.mk [0, 1, 2, 3, 7, 33] [(0, (.func (.yield 5) [] [])), (1, (.ptr 2 0 0)), (2, (.ptr 1 0 0)), (3, (.ptr 3 0 0)), (7, (.int .i64 (findByte 10 s 0))), (33, (.bool (decide (findByte 10 s 0 < 0))))] (by kernel_rfl) ?_
      refine Wl.done 3 rfl ?_
      refine retX.mk (.tup []) ⟨rfl, rfl⟩ (by kernel_rfl) ?_
      refine rEnd.mk .ready tm1 (by kernel_rfl) (fun e => by cases e) ?_
      refine Wc.seq ?_
      refine Wc.whole (b := ({ base 13 13 with marks := [4] })) [0, 2, 3, 6] [(0, (.str (s))), (2, (.sl 6 0 0 1 none)), (3, (.ptr 0 0 0)), (6, (.func (.func 37) [] [(.ptr 2 0 0), (.ptr 1 0 0), (.ptr 3 0 0)]))] (hp [.row 0 30 1 0 (some 1) [(.sl 6 0 0 1 none)], .row 0 9 1 0 (some 1) [(.str (s))], .row 0 9 1 0 (some 1) [(.str [10])], .row 0 3 1 0 (some 1) [(.int .i64 0)], .defs, .loop .exhausted none 13 13 tm1 [7] (rAs Tryd.prog 13 0) (rBd Tryd.prog 13 0) 4, .row 0 9 1 0 none [(.str (s))]]) [] (by kernel_rfl) .nil ?_
      refine Wc.ret ?_
      refine retX.marks (hp [.row 0 30 1 0 (some 1) [(.sl 6 0 0 1 none)], .row 0 9 1 0 (some 1) [(.str (s))], .row 0 9 1 0 (some 1) [(.str [10])], .row 0 3 1 0 (some 1) [(.int .i64 0)], .dead, .loop .exhausted none 13 13 tm1 [7] (rAs Tryd.prog 13 0) (rBd Tryd.prog 13 0) 4, .row 0 9 1 0 none [(.str (s))]]) (.sl 6 0 0 1 none) rfl (by kernel_rfl) (by kernel_rfl) ?_
      rw [lines_end s (by assumption)]; rfl
    · refine Wc.skip ?_
      refine Wc.seq ?_
      refine Wc.whole (b := (base 37 52)) [0, 1, 2, 3, 7, 8, 33] [(0, (.func (.yield 5) [] [])), (1, (.ptr 2 0 0)), (2, (.ptr 1 0 0)), (3, (.ptr 3 0 0)), (7, (.int .i64 (findByte 10 s 0))), (8, (.str (List.take (Int.toNat (findByte 10 s 0 + 0)) s))), (33, (.bool (decide (findByte 10 s 0 < 0))))] (hp [.row 0 30 1 0 (some 1) [.nils], .row 0 9 1 0 (some 1) [(.str (s))], .row 0 9 1 0 (some 1) [(.str [10])], .row 0 3 1 0 (some 1) [(.int .i64 0)], .defs, .loop .ready none 13 13 tm1 [7] (rAs Tryd.prog 13 0) (rBd Tryd.prog 13 0) 4]) [(((-9223372036854775808 : Int) ≤ findByte (10 : UInt8) s (0 : Nat) + (0 : Int)) ∧ (findByte (10 : UInt8) s (0 : Nat) + (0 : Int) ≤ (9223372036854775807 : Int))), (((0 : Int) ≤ findByte (10 : UInt8) s (0 : Nat) + (0 : Int)) ∧ (findByte (10 : UInt8) s (0 : Nat) + (0 : Int) ≤ (↑(List.length s) : Int)))] (by kernel_rfl) (.cons (by omega) (.cons (by omega) .nil)) ?_
      refine Wc.seq ?_
      refine Wc.seq ?_
      refine Wc.enter ?_
      refine Wl.batch (b := (base 37 52)) 0 2 [0, 1, 2, 3, 7, 8, 33, 39, 40] [(0, (.func (.yield 5) [] [])), (1, (.ptr 2 0 0)), (2, (.ptr 1 0 0)), (3, (.ptr 3 0 0)), (7, (.int .i64 (findByte 10 s 0))), (8, (.str (List.take (Int.toNat (findByte 10 s 0 + 0)) s))), (33, (.bool (decide (findByte 10 s 0 < 0)))), (39, (.func (.yield 5) [] [])), (40, (.str (List.take (Int.toNat (findByte 10 s 0 + 0)) s)))] (hp [.row 0 30 1 0 (some 1) [.nils], .row 0 9 1 0 (some 1) [(.str (s))], .row 0 9 1 0 (some 1) [(.str [10])], .row 0 3 1 0 (some 1) [(.int .i64 0)], .defs, .loop .ready none 13 13 tm1 [7] (rAs Tryd.prog 13 0) (rBd Tryd.prog 13 0) 4]) [] (by kernel_rfl) rfl .nil ?_
      refine Wl.yield (b := (base 37 52)) (h1 := (hp [.row 0 30 1 0 (some 1) [.nils], .row 0 9 1 0 (some 1) [(.str (s))], .row 0 9 1 0 (some 1) [(.str [10])], .row 0 3 1 0 (some 1) [(.int .i64 0)], .defs, .loop .ready none 13 13 tm1 [7] (rAs Tryd.prog 13 0) (rBd Tryd.prog 13 0) 4])) (l := 5) (args := [(.str (List.take (Int.toNat (findByte 10 s 0 + 0)) s))]) (d := (some 41)) (st := .ready) (pd0 := none) (fn := 13) (n := 13) (tm := tm1) (ps := [7]) (ag := (rAs Tryd.prog 13 0)) (bd := (rBd Tryd.prog 13 0)) (dd := 4) 2 [0, 2, 3, 6, 7] [(0, (.str (s))), (2, .nils), (3, (.ptr 0 0 0)), (6, (.func (.func 37) [] [(.ptr 2 0 0), (.ptr 1 0 0), (.ptr 3 0 0)])), (7, (.str (List.take (Int.toNat (findByte 10 s 0 + 0)) s)))] hT2 (by kernel_rfl) (by kernel_rfl) (by kernel_rfl) ?_
      refine Wc.whole (b := (roundB 13 13 5)) [0, 2, 3, 4, 6, 7] [(0, (.str (s))), (2, .nils), (3, (.ptr 0 0 0)), (4, (.str (List.take (Int.toNat (findByte 10 s 0 + 0)) s))), (6, (.func (.func 37) [] [(.ptr 2 0 0), (.ptr 1 0 0), (.ptr 3 0 0)])), (7, (.str (List.take (Int.toNat (findByte 10 s 0 + 0)) s)))] (hp [.row 0 30 1 0 (some 1) [.nils], .row 0 9 1 0 (some 1) [(.str (s))], .row 0 9 1 0 (some 1) [(.str [10])], .row 0 3 1 0 (some 1) [(.int .i64 0)], .defs, .loop .ready none 13 13 tm1 [7] (rAs Tryd.prog 13 0) (rBd Tryd.prog 13 0) 4]) [] (by kernel_rfl) .nil ?_
      refine yBody.mk none (by kernel_rfl) ?_
      refine Wc.block ?_
      refine Wc.whole (b := (roundB 13 13 5)) [0, 2, 3, 4, 6, 7] [(0, (.str (s))), (2, .nils), (3, (.ptr 0 0 0)), (4, (.str (List.take (Int.toNat (findByte 10 s 0 + 0)) s))), (6, (.func (.func 37) [] [(.ptr 2 0 0), (.ptr 1 0 0), (.ptr 3 0 0)])), (7, (.str (List.take (Int.toNat (findByte 10 s 0 + 0)) s)))] (hp [.row 0 30 1 0 (some 1) [(.sl 6 0 0 1 none)], .row 0 9 1 0 (some 1) [(.str (s))], .row 0 9 1 0 (some 1) [(.str [10])], .row 0 3 1 0 (some 1) [(.int .i64 0)], .defs, .loop .busy none 13 13 tm1 [7] (rAs Tryd.prog 13 0) (rBd Tryd.prog 13 0) 4, .row 0 9 1 0 none [(.str (List.take (Int.toNat (findByte 10 s 0 + 0)) s))]]) [(([V.str (List.take (Int.toNat (findByte (10 : UInt8) s (0 : Nat) + (0 : Int))) s)] ≠ []) ∧ ((List.length [V.str (List.take (Int.toNat (findByte (10 : UInt8) s (0 : Nat) + (0 : Int))) s)] ≤ (1099511627776 : Nat)) ∧ (List.length [V.str (List.take (Int.toNat (findByte (10 : UInt8) s (0 : Nat) + (0 : Int))) s)] * (16 : Nat) ≤ (1099511627776 : Nat))))] (by kernel_rfl) (.cons (by simp) .nil) ?_
      refine yEnd.mk none (by kernel_rfl) ?_
      refine yNext.mk [0, 1, 2, 3, 7, 8, 33, 41] [(0, (.func (.yield 5) [] [])), (1, (.ptr 2 0 0)), (2, (.ptr 1 0 0)), (3, (.ptr 3 0 0)), (7, (.int .i64 (findByte 10 s 0))), (8, (.str (List.take (Int.toNat (findByte 10 s 0 + 0)) s))), (33, (.bool (decide (findByte 10 s 0 < 0)))), (41, (.bool true))] (by kernel_rfl) ?_
      refine Wl.batch (b := (base 37 52)) 3 4 [0, 1, 2, 3, 7, 8, 33, 42] [(0, (.func (.yield 5) [] [])), (1, (.ptr 2 0 0)), (2, (.ptr 1 0 0)), (3, (.ptr 3 0 0)), (7, (.int .i64 (findByte 10 s 0))), (8, (.str (List.take (Int.toNat (findByte 10 s 0 + 0)) s))), (33, (.bool (decide (findByte 10 s 0 < 0)))), (42, (.bool false))] (hp [.row 0 30 1 0 (some 1) [(.sl 6 0 0 1 none)], .row 0 9 1 0 (some 1) [(.str (s))], .row 0 9 1 0 (some 1) [(.str [10])], .row 0 3 1 0 (some 1) [(.int .i64 0)], .defs, .loop .ready none 13 13 tm1 [7] (rAs Tryd.prog 13 0) (rBd Tryd.prog 13 0) 4, .row 0 9 1 0 none [(.str (List.take (Int.toNat (findByte 10 s 0 + 0)) s))]]) [] (by kernel_rfl) rfl .nil ?_
      refine Wl.done 4 rfl ?_
      refine Wc.condF (by kernel_rfl) (by kernel_rfl) ?_
      refine Wc.skip ?_
      refine Wc.whole (b := (base 37 52)) [0, 1, 2, 3, 7, 8, 33, 42] [(0, (.func (.yield 5) [] [])), (1, (.ptr 2 0 0)), (2, (.ptr 1 0 0)), (3, (.ptr 3 0 0)), (7, (.int .i64 (findByte 10 s 0))), (8, (.str (List.take (Int.toNat (findByte 10 s 0 + 0)) s))), (33, (.bool (decide (findByte 10 s 0 < 0)))), (42, (.bool false))] (hp [.row 0 30 1 0 (some 1) [(.sl 6 0 0 1 none)], .row 0 9 1 0 (some 1) [(.str (List.drop (Int.toNat (findByte 10 s 0 + 1)) s))], .row 0 9 1 0 (some 1) [(.str [10])], .row 0 3 1 0 (some 1) [(.int .i64 0)], .defs, .loop .ready none 13 13 tm1 [7] (rAs Tryd.prog 13 0) (rBd Tryd.prog 13 0) 4, .row 0 9 1 0 none [(.str (List.take (Int.toNat (findByte 10 s 0 + 0)) s))]]) [(((-9223372036854775808 : Int) ≤ findByte (10 : UInt8) s (0 : Nat) + (1 : Int)) ∧ (findByte (10 : UInt8) s (0 : Nat) + (1 : Int) ≤ (9223372036854775807 : Int))), (((0 : Int) ≤ findByte (10 : UInt8) s (0 : Nat) + (1 : Int)) ∧ (findByte (10 : UInt8) s (0 : Nat) + (1 : Int) ≤ (↑(List.length s) : Int)))] (by kernel_rfl) (.cons (by omega) (.cons (by omega) .nil)) ?_
      have hn := lines_next s (by assumption)
      exact ⟨some ([s.take (findByte 10 s 0 + 0).toNat], s.drop (findByte 10 s 0 + 1).toNat), Le.on [0, 1, 2, 3] (by kernel_rfl), by kernel_rfl, ⟨by simp, hn, by simp; omega⟩, by simp; omega⟩
  · simp only at hI ⊢
    obtain ⟨hd, hl, hr⟩ := hI
    have hf := find_le r
    have hd1 : 0 < d.length := List.length_pos_iff.2 hd
    refine Wc.block ?_
    refine Wc.seq ?_
    refine Wc.enter ?_
    refine Wl.batch (b := (base 37 52)) 0 2 [0, 1, 2, 3, 29, 30] [(0, (.func (.yield 5) [] [])), (1, (.ptr 2 0 0)), (2, (.ptr 1 0 0)), (3, (.ptr 3 0 0)), (29, (.str (r))), (30, (.str [10]))] (hp [.row 0 30 1 0 (some 1) [(.sl 6 (List.length d - 1) 0 (List.length d) none)], .row 0 9 1 0 (some 1) [(.str (r))], .row 0 9 1 0 (some 1) [(.str [10])], .row 0 3 1 0 (some 1) [(.int .i64 0)], .defs, .loop .ready none 13 13 tm1 [7] (rAs Tryd.prog 13 0) (rBd Tryd.prog 13 0) 4, .row (List.length d - 1) 9 1 0 none (List.map V.str d)]) [] (by kernel_rfl) rfl .nil ?_
    refine Wl.callP (b := (base 37 52)) (h1 := (hp [.row 0 30 1 0 (some 1) [(.sl 6 (List.length d - 1) 0 (List.length d) none)], .row 0 9 1 0 (some 1) [(.str (r))], .row 0 9 1 0 (some 1) [(.str [10])], .row 0 3 1 0 (some 1) [(.int .i64 0)], .defs, .loop .ready none 13 13 tm1 [7] (rAs Tryd.prog 13 0) (rBd Tryd.prog 13 0) 4, .row (List.length d - 1) 9 1 0 none (List.map V.str d)])) (h2 := (hp [.row 0 30 1 0 (some 1) [(.sl 6 (List.length d - 1) 0 (List.length d) none)], .row 0 9 1 0 (some 1) [(.str (r))], .row 0 9 1 0 (some 1) [(.str [10])], .row 0 3 1 0 (some 1) [(.int .i64 0)], .defs, .loop .ready none 13 13 tm1 [7] (rAs Tryd.prog 13 0) (rBd Tryd.prog 13 0) 4, .row (List.length d - 1) 9 1 0 none (List.map V.str d)])) (v := (.int .i64 (findByte 10 r 0))) (d := (some 31)) 2 [0, 1, 2, 3, 31] [(0, (.func (.yield 5) [] [])), (1, (.ptr 2 0 0)), (2, (.ptr 1 0 0)), (3, (.ptr 3 0 0)), (31, (.int .i64 (findByte 10 r 0)))] (@Go.AM.c29 (r)) (by kernel_rfl) (by kernel_rfl) (by kernel_rfl) ?_
    refine Wl.batch (b := (base 37 52)) 3 4 [0, 1, 2, 3, 7] [(0, (.func (.yield 5) [] [])), (1, (.ptr 2 0 0)), (2, (.ptr 1 0 0)), (3, (.ptr 3 0 0)), (7, (.int .i64 (findByte 10 r 0)))] (hp [.row 0 30 1 0 (some 1) [(.sl 6 (List.length d - 1) 0 (List.length d) none)], .row 0 9 1 0 (some 1) [(.str (r))], .row 0 9 1 0 (some 1) [(.str [10])], .row 0 3 1 0 (some 1) [(.int .i64 0)], .defs, .loop .ready none 13 13 tm1 [7] (rAs Tryd.prog 13 0) (rBd Tryd.prog 13 0) 4, .row (List.length d - 1) 9 1 0 none (List.map V.str d)]) [] (by kernel_rfl) rfl .nil ?_
    refine Wl.done 4 rfl ?_
    refine Wc.seq ?_
    refine Wc.seq ?_
    refine Wc.whole (b := (base 37 52)) [0, 1, 2, 3, 7, 33] [(0, (.func (.yield 5) [] [])), (1, (.ptr 2 0 0)), (2, (.ptr 1 0 0)), (3, (.ptr 3 0 0)), (7, (.int .i64 (findByte 10 r 0))), (33, (.bool (decide (findByte 10 r 0 < 0))))] (hp [.row 0 30 1 0 (some 1) [(.sl 6 (List.length d - 1) 0 (List.length d) none)], .row 0 9 1 0 (some 1) [(.str (r))], .row 0 9 1 0 (some 1) [(.str [10])], .row 0 3 1 0 (some 1) [(.int .i64 0)], .defs, .loop .ready none 13 13 tm1 [7] (rAs Tryd.prog 13 0) (rBd Tryd.prog 13 0) 4, .row (List.length d - 1) 9 1 0 none (List.map V.str d)]) [] (by kernel_rfl) .nil ?_
    refine Wc.condP (p := findByte 10 r 0 < 0) (by kernel_rfl) (by kernel_rfl) (fun c1 => ?_) (fun c1 => ?_)
    · refine Wc.exit ?_
      refine blockX.out rfl ?_
      refine blockX.here ?_
      refine Wc.enter ?_
      refine Wl.batch (b := (base 37 52)) 0 2 [0, 1, 2, 3, 7, 33, 49, 50] [(0, (.func (.yield 5) [] [])), (1, (.ptr 2 0 0)), (2, (.ptr 1 0 0)), (3, (.ptr 3 0 0)), (7, (.int .i64 (findByte 10 r 0))), (33, (.bool (decide (findByte 10 r 0 < 0)))), (49, (.func (.yield 5) [] [])), (50, (.str (r)))] (hp [.row 0 30 1 0 (some 1) [(.sl 6 (List.length d - 1) 0 (List.length d) none)], .row 0 9 1 0 (some 1) [(.str (r))], .row 0 9 1 0 (some 1) [(.str [10])], .row 0 3 1 0 (some 1) [(.int .i64 0)], .defs, .loop .ready none 13 13 tm1 [7] (rAs Tryd.prog 13 0) (rBd Tryd.prog 13 0) 4, .row (List.length d - 1) 9 1 0 none (List.map V.str d)]) [] (by kernel_rfl) rfl .nil ?_
      refine Wl.yield (b := (base 37 52)) (h1 := (hp [.row 0 30 1 0 (some 1) [(.sl 6 (List.length d - 1) 0 (List.length d) none)], .row 0 9 1 0 (some 1) [(.str (r))], .row 0 9 1 0 (some 1) [(.str [10])], .row 0 3 1 0 (some 1) [(.int .i64 0)], .defs, .loop .ready none 13 13 tm1 [7] (rAs Tryd.prog 13 0) (rBd Tryd.prog 13 0) 4, .row (List.length d - 1) 9 1 0 none (List.map V.str d)])) (l := 5) (args := [(.str (r))]) (d := (some 51)) (st := .ready) (pd0 := none) (fn := 13) (n := 13) (tm := tm1) (ps := [7]) (ag := (rAs Tryd.prog 13 0)) (bd := (rBd Tryd.prog 13 0)) (dd := 4) 2 [0, 2, 3, 6, 7] [(0, (.str (s))), (2, .nils), (3, (.ptr 0 0 0)), (6, (.func (.func 37) [] [(.ptr 2 0 0), (.ptr 1 0 0), (.ptr 3 0 0)])), (7, (.str (r)))] hT2 (by kernel_rfl) (by kernel_rfl) (by kernel_rfl) ?_
      refine Wc.whole (b := (roundB 13 13 5)) [0, 2, 3, 4, 6, 7] [(0, (.str (s))), (2, .nils), (3, (.ptr 0 0 0)), (4, (.str (r))), (6, (.func (.func 37) [] [(.ptr 2 0 0), (.ptr 1 0 0), (.ptr 3 0 0)])), (7, (.str (r)))] (hp [.row 0 30 1 0 (some 1) [(.sl 6 (List.length d - 1) 0 (List.length d) none)], .row 0 9 1 0 (some 1) [(.str (r))], .row 0 9 1 0 (some 1) [(.str [10])], .row 0 3 1 0 (some 1) [(.int .i64 0)], .defs, .loop .ready none 13 13 tm1 [7] (rAs Tryd.prog 13 0) (rBd Tryd.prog 13 0) 4, .row (List.length d - 1) 9 1 0 none (List.map V.str d)]) [] (by kernel_rfl) .nil ?_
      refine yBody.mk none (by kernel_rfl) ?_
      refine Wc.block ?_
      refine Wc.whole (b := (roundB 13 13 5)) [0, 2, 3, 4, 6, 7] [(0, (.str (s))), (2, .nils), (3, (.ptr 0 0 0)), (4, (.str (r))), (6, (.func (.func 37) [] [(.ptr 2 0 0), (.ptr 1 0 0), (.ptr 3 0 0)])), (7, (.str (r)))] (hp [.row 0 30 1 0 (some 1) [(.sl 6 (Nat.succ (List.length d - 1)) 0 (List.length d + List.length [V.str r]) none)], .row 0 9 1 0 (some 1) [(.str (r))], .row 0 9 1 0 (some 1) [(.str [10])], .row 0 3 1 0 (some 1) [(.int .i64 0)], .defs, .loop .busy none 13 13 tm1 [7] (rAs Tryd.prog 13 0) (rBd Tryd.prog 13 0) 4, .row (Nat.succ (List.length d - 1)) 9 1 0 none (List.map V.str d ++ [V.str r])]) [((List.length d - (1 : Nat) = List.length d - (1 : Nat)) ∧ (([V.str r] ≠ []) ∧ ((List.length d = List.length (List.map V.str d)) ∧ (((0 : Nat) ≤ List.length d) ∧ ((List.length d + List.length [V.str r] ≤ (1099511627776 : Nat)) ∧ ((List.length d + List.length [V.str r]) * (16 : Nat) ≤ (1099511627776 : Nat)))))))] (by kernel_rfl) (.cons (by (simp; omega)) .nil) ?_
      refine yEnd.mk none (by kernel_rfl) ?_
      refine yNext.mk [0, 1, 2, 3, 7, 33] [(0, (.func (.yield 5) [] [])), (1, (.ptr 2 0 0)), (2, (.ptr 1 0 0)), (3, (.ptr 3 0 0)), (7, (.int .i64 (findByte 10 r 0))), (33, (.bool (decide (findByte 10 r 0 < 0))))] (by kernel_rfl) ?_
      refine Wl.done 3 rfl ?_
      refine retX.mk (.tup []) ⟨rfl, rfl⟩ (by kernel_rfl) ?_
      refine rEnd.mk .ready tm1 (by kernel_rfl) (fun e => by cases e) ?_
      refine Wc.seq ?_
      refine Wc.whole (b := ({ base 13 13 with marks := [4] })) [0, 2, 3, 6] [(0, (.str (s))), (2, (.sl 6 (Nat.succ (List.length d - 1)) 0 (List.length d + List.length [V.str r]) none)), (3, (.ptr 0 0 0)), (6, (.func (.func 37) [] [(.ptr 2 0 0), (.ptr 1 0 0), (.ptr 3 0 0)]))] (hp [.row 0 30 1 0 (some 1) [(.sl 6 (Nat.succ (List.length d - 1)) 0 (List.length d + List.length [V.str r]) none)], .row 0 9 1 0 (some 1) [(.str (r))], .row 0 9 1 0 (some 1) [(.str [10])], .row 0 3 1 0 (some 1) [(.int .i64 0)], .defs, .loop .exhausted none 13 13 tm1 [7] (rAs Tryd.prog 13 0) (rBd Tryd.prog 13 0) 4, .row (Nat.succ (List.length d - 1)) 9 1 0 none (List.map V.str d ++ [V.str r])]) [] (by kernel_rfl) .nil ?_
      refine Wc.ret ?_
      refine retX.marks (hp [.row 0 30 1 0 (some 1) [(.sl 6 (Nat.succ (List.length d - 1)) 0 (List.length d + List.length [V.str r]) none)], .row 0 9 1 0 (some 1) [(.str (r))], .row 0 9 1 0 (some 1) [(.str [10])], .row 0 3 1 0 (some 1) [(.int .i64 0)], .dead, .loop .exhausted none 13 13 tm1 [7] (rAs Tryd.prog 13 0) (rBd Tryd.prog 13 0) 4, .row (Nat.succ (List.length d - 1)) 9 1 0 none (List.map V.str d ++ [V.str r])]) (.sl 6 (Nat.succ (List.length d - 1)) 0 (List.length d + List.length [V.str r]) none) rfl (by kernel_rfl) (by kernel_rfl) ?_
      have e : (d ++ [r]).map V.str = d.map V.str ++ [V.str r] := by simp
      rw [hl, lines_end r (by assumption)]
      exact retAll_row (f := V.str) (fun _ _ _ => rfl) (l := d ++ [r]) (by kernel_rfl) e.symm (by simp)
    · refine Wc.skip ?_
      refine Wc.seq ?_
      refine Wc.whole (b := (base 37 52)) [0, 1, 2, 3, 7, 8, 33] [(0, (.func (.yield 5) [] [])), (1, (.ptr 2 0 0)), (2, (.ptr 1 0 0)), (3, (.ptr 3 0 0)), (7, (.int .i64 (findByte 10 r 0))), (8, (.str (List.take (Int.toNat (findByte 10 r 0 + 0)) r))), (33, (.bool (decide (findByte 10 r 0 < 0))))] (hp [.row 0 30 1 0 (some 1) [(.sl 6 (List.length d - 1) 0 (List.length d) none)], .row 0 9 1 0 (some 1) [(.str (r))], .row 0 9 1 0 (some 1) [(.str [10])], .row 0 3 1 0 (some 1) [(.int .i64 0)], .defs, .loop .ready none 13 13 tm1 [7] (rAs Tryd.prog 13 0) (rBd Tryd.prog 13 0) 4, .row (List.length d - 1) 9 1 0 none (List.map V.str d)]) [(((-9223372036854775808 : Int) ≤ findByte (10 : UInt8) r (0 : Nat) + (0 : Int)) ∧ (findByte (10 : UInt8) r (0 : Nat) + (0 : Int) ≤ (9223372036854775807 : Int))), (((0 : Int) ≤ findByte (10 : UInt8) r (0 : Nat) + (0 : Int)) ∧ (findByte (10 : UInt8) r (0 : Nat) + (0 : Int) ≤ (↑(List.length r) : Int)))] (by kernel_rfl) (.cons (by omega) (.cons (by omega) .nil)) ?_
      refine Wc.seq ?_
      refine Wc.seq ?_
      refine Wc.enter ?_
      refine Wl.batch (b := (base 37 52)) 0 2 [0, 1, 2, 3, 7, 8, 33, 39, 40] [(0, (.func (.yield 5) [] [])), (1, (.ptr 2 0 0)), (2, (.ptr 1 0 0)), (3, (.ptr 3 0 0)), (7, (.int .i64 (findByte 10 r 0))), (8, (.str (List.take (Int.toNat (findByte 10 r 0 + 0)) r))), (33, (.bool (decide (findByte 10 r 0 < 0)))), (39, (.func (.yield 5) [] [])), (40, (.str (List.take (Int.toNat (findByte 10 r 0 + 0)) r)))] (hp [.row 0 30 1 0 (some 1) [(.sl 6 (List.length d - 1) 0 (List.length d) none)], .row 0 9 1 0 (some 1) [(.str (r))], .row 0 9 1 0 (some 1) [(.str [10])], .row 0 3 1 0 (some 1) [(.int .i64 0)], .defs, .loop .ready none 13 13 tm1 [7] (rAs Tryd.prog 13 0) (rBd Tryd.prog 13 0) 4, .row (List.length d - 1) 9 1 0 none (List.map V.str d)]) [] (by kernel_rfl) rfl .nil ?_
      refine Wl.yield (b := (base 37 52)) (h1 := (hp [.row 0 30 1 0 (some 1) [(.sl 6 (List.length d - 1) 0 (List.length d) none)], .row 0 9 1 0 (some 1) [(.str (r))], .row 0 9 1 0 (some 1) [(.str [10])], .row 0 3 1 0 (some 1) [(.int .i64 0)], .defs, .loop .ready none 13 13 tm1 [7] (rAs Tryd.prog 13 0) (rBd Tryd.prog 13 0) 4, .row (List.length d - 1) 9 1 0 none (List.map V.str d)])) (l := 5) (args := [(.str (List.take (Int.toNat (findByte 10 r 0 + 0)) r))]) (d := (some 41)) (st := .ready) (pd0 := none) (fn := 13) (n := 13) (tm := tm1) (ps := [7]) (ag := (rAs Tryd.prog 13 0)) (bd := (rBd Tryd.prog 13 0)) (dd := 4) 2 [0, 2, 3, 6, 7] [(0, (.str (s))), (2, .nils), (3, (.ptr 0 0 0)), (6, (.func (.func 37) [] [(.ptr 2 0 0), (.ptr 1 0 0), (.ptr 3 0 0)])), (7, (.str (List.take (Int.toNat (findByte 10 r 0 + 0)) r)))] hT2 (by kernel_rfl) (by kernel_rfl) (by kernel_rfl) ?_
      refine Wc.whole (b := (roundB 13 13 5)) [0, 2, 3, 4, 6, 7] [(0, (.str (s))), (2, .nils), (3, (.ptr 0 0 0)), (4, (.str (List.take (Int.toNat (findByte 10 r 0 + 0)) r))), (6, (.func (.func 37) [] [(.ptr 2 0 0), (.ptr 1 0 0), (.ptr 3 0 0)])), (7, (.str (List.take (Int.toNat (findByte 10 r 0 + 0)) r)))] (hp [.row 0 30 1 0 (some 1) [(.sl 6 (List.length d - 1) 0 (List.length d) none)], .row 0 9 1 0 (some 1) [(.str (r))], .row 0 9 1 0 (some 1) [(.str [10])], .row 0 3 1 0 (some 1) [(.int .i64 0)], .defs, .loop .ready none 13 13 tm1 [7] (rAs Tryd.prog 13 0) (rBd Tryd.prog 13 0) 4, .row (List.length d - 1) 9 1 0 none (List.map V.str d)]) [] (by kernel_rfl) .nil ?_
      refine yBody.mk none (by kernel_rfl) ?_
      refine Wc.block ?_
      refine Wc.whole (b := (roundB 13 13 5)) [0, 2, 3, 4, 6, 7] [(0, (.str (s))), (2, .nils), (3, (.ptr 0 0 0)), (4, (.str (List.take (Int.toNat (findByte 10 r 0 + 0)) r))), (6, (.func (.func 37) [] [(.ptr 2 0 0), (.ptr 1 0 0), (.ptr 3 0 0)])), (7, (.str (List.take (Int.toNat (findByte 10 r 0 + 0)) r)))] (hp [.row 0 30 1 0 (some 1) [(.sl 6 (Nat.succ (List.length d - 1)) 0 (List.length d + List.length [V.str (List.take (Int.toNat (findByte 10 r 0 + 0)) r)]) none)], .row 0 9 1 0 (some 1) [(.str (r))], .row 0 9 1 0 (some 1) [(.str [10])], .row 0 3 1 0 (some 1) [(.int .i64 0)], .defs, .loop .busy none 13 13 tm1 [7] (rAs Tryd.prog 13 0) (rBd Tryd.prog 13 0) 4, .row (Nat.succ (List.length d - 1)) 9 1 0 none (List.map V.str d ++ [V.str (List.take (Int.toNat (findByte 10 r 0 + 0)) r)])]) [((List.length d - (1 : Nat) = List.length d - (1 : Nat)) ∧ (([V.str (List.take (Int.toNat (findByte (10 : UInt8) r (0 : Nat) + (0 : Int))) r)] ≠ []) ∧ ((List.length d = List.length (List.map V.str d)) ∧ (((0 : Nat) ≤ List.length d) ∧ ((List.length d + List.length [V.str (List.take (Int.toNat (findByte (10 : UInt8) r (0 : Nat) + (0 : Int))) r)] ≤ (1099511627776 : Nat)) ∧ ((List.length d + List.length [V.str (List.take (Int.toNat (findByte (10 : UInt8) r (0 : Nat) + (0 : Int))) r)]) * (16 : Nat) ≤ (1099511627776 : Nat)))))))] (by kernel_rfl) (.cons (by (simp; omega)) .nil) ?_
      refine yEnd.mk none (by kernel_rfl) ?_
      refine yNext.mk [0, 1, 2, 3, 7, 8, 33, 41] [(0, (.func (.yield 5) [] [])), (1, (.ptr 2 0 0)), (2, (.ptr 1 0 0)), (3, (.ptr 3 0 0)), (7, (.int .i64 (findByte 10 r 0))), (8, (.str (List.take (Int.toNat (findByte 10 r 0 + 0)) r))), (33, (.bool (decide (findByte 10 r 0 < 0)))), (41, (.bool true))] (by kernel_rfl) ?_
      refine Wl.batch (b := (base 37 52)) 3 4 [0, 1, 2, 3, 7, 8, 33, 42] [(0, (.func (.yield 5) [] [])), (1, (.ptr 2 0 0)), (2, (.ptr 1 0 0)), (3, (.ptr 3 0 0)), (7, (.int .i64 (findByte 10 r 0))), (8, (.str (List.take (Int.toNat (findByte 10 r 0 + 0)) r))), (33, (.bool (decide (findByte 10 r 0 < 0)))), (42, (.bool false))] (hp [.row 0 30 1 0 (some 1) [(.sl 6 (Nat.succ (List.length d - 1)) 0 (List.length d + List.length [V.str (List.take (Int.toNat (findByte 10 r 0 + 0)) r)]) none)], .row 0 9 1 0 (some 1) [(.str (r))], .row 0 9 1 0 (some 1) [(.str [10])], .row 0 3 1 0 (some 1) [(.int .i64 0)], .defs, .loop .ready none 13 13 tm1 [7] (rAs Tryd.prog 13 0) (rBd Tryd.prog 13 0) 4, .row (Nat.succ (List.length d - 1)) 9 1 0 none (List.map V.str d ++ [V.str (List.take (Int.toNat (findByte 10 r 0 + 0)) r)])]) [] (by kernel_rfl) rfl .nil ?_
      refine Wl.done 4 rfl ?_
      refine Wc.condF (by kernel_rfl) (by kernel_rfl) ?_
      refine Wc.skip ?_
      refine Wc.whole (b := (base 37 52)) [0, 1, 2, 3, 7, 8, 33, 42] [(0, (.func (.yield 5) [] [])), (1, (.ptr 2 0 0)), (2, (.ptr 1 0 0)), (3, (.ptr 3 0 0)), (7, (.int .i64 (findByte 10 r 0))), (8, (.str (List.take (Int.toNat (findByte 10 r 0 + 0)) r))), (33, (.bool (decide (findByte 10 r 0 < 0)))), (42, (.bool false))] (hp [.row 0 30 1 0 (some 1) [(.sl 6 (Nat.succ (List.length d - 1)) 0 (List.length d + List.length [V.str (List.take (Int.toNat (findByte 10 r 0 + 0)) r)]) none)], .row 0 9 1 0 (some 1) [(.str (List.drop (Int.toNat (findByte 10 r 0 + 1)) r))], .row 0 9 1 0 (some 1) [(.str [10])], .row 0 3 1 0 (some 1) [(.int .i64 0)], .defs, .loop .ready none 13 13 tm1 [7] (rAs Tryd.prog 13 0) (rBd Tryd.prog 13 0) 4, .row (Nat.succ (List.length d - 1)) 9 1 0 none (List.map V.str d ++ [V.str (List.take (Int.toNat (findByte 10 r 0 + 0)) r)])]) [(((-9223372036854775808 : Int) ≤ findByte (10 : UInt8) r (0 : Nat) + (1 : Int)) ∧ (findByte (10 : UInt8) r (0 : Nat) + (1 : Int) ≤ (9223372036854775807 : Int))), (((0 : Int) ≤ findByte (10 : UInt8) r (0 : Nat) + (1 : Int)) ∧ (findByte (10 : UInt8) r (0 : Nat) + (1 : Int) ≤ (↑(List.length r) : Int)))] (by kernel_rfl) (.cons (by omega) (.cons (by omega) .nil)) ?_
      have hn := lines_next r (by assumption)
      have e1 : (d ++ [r.take (findByte 10 r 0 + 0).toNat]).length = d.length + 1 := by simp
      have e2 : (d ++ [r.take (findByte 10 r 0 + 0).toNat]).map V.str = d.map V.str ++ [V.str (r.take (findByte 10 r 0 + 0).toNat)] := by simp
      refine ⟨some (d ++ [r.take (findByte 10 r 0 + 0).toNat], r.drop (findByte 10 r 0 + 1).toNat), Le.on [0, 1, 2, 3] (by kernel_rfl), ?_, ⟨by simp, by rw [hl, hn]; simp, by simp; omega⟩, by simp; omega⟩
      simp only
      rw [e1, e2, show d.length + 1 - 1 = (d.length - 1).succ by omega]
      kernel_rfl
theorem str9 : aggOf Tryd.prog 9 = some false := by kernel_rfl
theorem siz9 : size Tryd.prog 9 = 1 := by kernel_rfl
theorem len_lines (s : List UInt8) : List.len ((linesOf s).map V.str) = (linesOf s).length := by rw [List.len_eq, List.length_map]
theorem ld11 (s : List UInt8) (l : Int) (h0 : 0 ≤ l) (h1 : l < (linesOf s).length) : load Tryd.prog (hp [.row 0 9 1 0 none ((linesOf s).map V.str)]) 9 (.ptr 0 0 ((0 + l.toNat) * 1)) = some (.str ((linesOf s).getD l.toNat [])) :=
  load_at (f := V.str) (fun _ => rfl) (k := l.toNat) [] str9 siz9 rfl (by omega) (by omega)
theorem ld11n (s : List UInt8) (k : Nat) (h1 : k < (linesOf s).length) : load Tryd.prog (hp [.row 0 9 1 0 none ((linesOf s).map V.str)]) 9 (.ptr 0 0 ((0 + k) * 1)) = some (.str ((linesOf s).getD k [])) :=
  load_at (f := V.str) (fun _ => rfl) (k := k) [] str9 siz9 rfl (by omega) (by omega)
theorem c11 (s : List UInt8) (hs : s.length ≤ 1000) (l c : Int) (h0 : -4611686018427387904 ≤ c) (h1 : c ≤ 4611686018427387904) : Cp Tryd.prog EU 11 [.str s, .int .i64 l, .int .i64 c] (.tup [.int .i64 (offN s l c), .bool (decide (offOk s l c))]) := by
  have hlen := len_lines s
  have hl := linesOf_length s
  have hc := List.count_le_length (a := (10 : UInt8)) (l := s)
  refine Cp.body (fn := Tryd.f11) Tryd.func11 rfl (by kernel_rfl) ?_
  refine Wc.seq ?_
  refine Wc.whole (b := (base 11 50)) [0, 1, 2, 6, 7] [(0, (.str (s))), (1, (.int .i64 (l))), (2, (.int .i64 (c))), (6, (.int .i64 0)), (7, (.bool false))] Heap.empty [] (by kernel_rfl) .nil ?_
  refine Wc.seq ?_
  refine Wc.seq ?_
  refine Wc.enter ?_
  refine Wl.batch (b := (base 11 50)) 0 3 [0, 1, 2, 6, 7, 14] [(0, (.str (s))), (1, (.int .i64 (l))), (2, (.int .i64 (c))), (6, (.int .i64 0)), (7, (.bool false)), (14, (.bool (decide (l < 0))))] Heap.empty [] (by kernel_rfl) rfl .nil ?_
  refine Wl.join (b := (base 11 50)) (p := l < 0) [(0, (.str (s))), (1, (.int .i64 (l))), (2, (.int .i64 (c))), (6, (.int .i64 0)), (7, (.bool false)), (17, (.bool (decide ((l < 0) ∨ (c < 0)))))] Heap.empty (fun c1 => ?_) (fun c1 => ?_) ?_
  · refine Wl.known [(0, (.str (s))), (1, (.int .i64 (l))), (2, (.int .i64 (c))), (6, (.int .i64 0)), (7, (.bool false)), (14, (.bool true))] (by have e := decide_eq_true c1; simp only [e] <;> kernel_rfl) ?_
    refine Wl.batch (b := (base 11 50)) 3 6 [0, 1, 2, 6, 7, 17] [(0, (.str (s))), (1, (.int .i64 (l))), (2, (.int .i64 (c))), (6, (.int .i64 0)), (7, (.bool false)), (17, (.bool true))] Heap.empty [] (by kernel_rfl) rfl .nil ?_
    refine Wl.done 6 rfl ?_
    exact ⟨Le.on' [0, 1, 2, 6, 7, 17] [(0, (.str (s))), (1, (.int .i64 (l))), (2, (.int .i64 (c))), (6, (.int .i64 0)), (7, (.bool false)), (17, (.bool true))] (by kernel_rfl) (by rw [decOr c1] <;> kernel_rfl), by kernel_rfl⟩
  · refine Wl.known [(0, (.str (s))), (1, (.int .i64 (l))), (2, (.int .i64 (c))), (6, (.int .i64 0)), (7, (.bool false)), (14, (.bool false))] (by have e := decide_eq_false c1; simp only [e] <;> kernel_rfl) ?_
    refine Wl.batch (b := (base 11 50)) 3 6 [0, 1, 2, 6, 7, 17] [(0, (.str (s))), (1, (.int .i64 (l))), (2, (.int .i64 (c))), (6, (.int .i64 0)), (7, (.bool false)), (17, (.bool (decide (c < 0))))] Heap.empty [] (by kernel_rfl) rfl .nil ?_
    refine Wl.done 6 rfl ?_
    exact ⟨Le.on' [0, 1, 2, 6, 7, 17] [(0, (.str (s))), (1, (.int .i64 (l))), (2, (.int .i64 (c))), (6, (.int .i64 0)), (7, (.bool false)), (17, (.bool (decide (c < 0))))] (by kernel_rfl) (by rw [decOrF c1] <;> kernel_rfl), by kernel_rfl⟩
  refine Wc.condP (p := l < 0 ∨ c < 0) (by kernel_rfl) (by kernel_rfl) (fun c2 => ?_) (fun c2 => ?_)
  · refine Wc.seq ?_
    refine Wc.whole (b := (base 11 50)) [0, 1, 2, 6, 7, 17] [(0, (.str (s))), (1, (.int .i64 (l))), (2, (.int .i64 (c))), (6, (.int .i64 0)), (7, (.bool false)), (17, (.bool (decide (l < 0 ∨ c < 0))))] Heap.empty [] (by kernel_rfl) .nil ?_
    refine Wc.ret ?_
    refine retX.mk (.tup [(.int .i64 0), (.bool false)]) ⟨rfl, rfl⟩ (by kernel_rfl) ?_
    have hn : ¬ offOk s l c := by unfold offOk; omega
    unfold offN
    rw [if_neg hn, decide_eq_false hn]
    rfl
  · refine Wc.skip ?_
    refine Wc.seq ?_
    refine Wc.enter ?_
    refine Wl.batch (b := (base 11 50)) 0 1 [0, 1, 2, 6, 7, 17, 18] [(0, (.str (s))), (1, (.int .i64 (l))), (2, (.int .i64 (c))), (6, (.int .i64 0)), (7, (.bool false)), (17, (.bool (decide (l < 0 ∨ c < 0)))), (18, (.str (s)))] Heap.empty [] (by kernel_rfl) rfl .nil ?_
    refine Wl.callP (b := (base 11 50)) (h1 := Heap.empty) (h2 := (hp [.row 0 9 1 0 none (List.map V.str (linesOf s))])) (v := (.sl 0 0 0 (List.len (List.map V.str (linesOf s))) none)) (d := (some 19)) 1 [0, 1, 2, 6, 7, 17, 19] [(0, (.str (s))), (1, (.int .i64 (l))), (2, (.int .i64 (c))), (6, (.int .i64 0)), (7, (.bool false)), (17, (.bool (decide (l < 0 ∨ c < 0)))), (19, (.sl 0 0 0 (List.len (List.map V.str (linesOf s))) none))] (@Go.AM.c13 (s) (by assumption)) (by kernel_rfl) (by kernel_rfl) (by kernel_rfl) ?_
    refine Wl.batch (b := (base 11 50)) 2 4 [0, 1, 2, 6, 7, 8, 9, 17] [(0, (.str (s))), (1, (.int .i64 (l))), (2, (.int .i64 (c))), (6, (.int .i64 0)), (7, (.bool false)), (8, (.int .i64 0)), (9, (.sl 0 0 0 (List.len (List.map V.str (linesOf s))) none)), (17, (.bool (decide (l < 0 ∨ c < 0))))] (hp [.row 0 9 1 0 none (List.map V.str (linesOf s))]) [] (by kernel_rfl) rfl .nil ?_
    refine Wl.done 4 rfl ?_
    refine Wc.seq ?_
    refine Wc.seq ?_
    refine Wc.enter ?_
    refine Wl.batch (b := (base 11 50)) 0 5 [0, 1, 2, 6, 7, 8, 9, 17, 24] [(0, (.str (s))), (1, (.int .i64 (l))), (2, (.int .i64 (c))), (6, (.int .i64 0)), (7, (.bool false)), (8, (.int .i64 0)), (9, (.sl 0 0 0 (List.len (List.map V.str (linesOf s))) none)), (17, (.bool (decide (l < 0 ∨ c < 0)))), (24, (.bool (decide ((↑(List.len (List.map V.str (linesOf s))) : Int) ≤ l))))] (hp [.row 0 9 1 0 none (List.map V.str (linesOf s))]) [] (by kernel_rfl) rfl .nil ?_
    refine Wl.join (b := (base 11 50)) (p := (↑(List.len (List.map V.str (linesOf s))) : Int) ≤ l) [(0, (.str (s))), (1, (.int .i64 (l))), (2, (.int .i64 (c))), (6, (.int .i64 0)), (7, (.bool false)), (8, (.int .i64 0)), (9, (.sl 0 0 0 (List.len (List.map V.str (linesOf s))) none)), (17, (.bool (decide (l < 0 ∨ c < 0)))), (32, (.bool (decide (((↑(List.len (List.map V.str (linesOf s))) : Int) ≤ l) ∨ ((↑(List.length (List.getD (linesOf s) (Int.toNat l) [])) : Int) < c)))))] (hp [.row 0 9 1 0 none (List.map V.str (linesOf s))]) (fun c3 => ?_) (fun c3 => ?_) ?_
    · refine Wl.known [(0, (.str (s))), (1, (.int .i64 (l))), (2, (.int .i64 (c))), (6, (.int .i64 0)), (7, (.bool false)), (8, (.int .i64 0)), (9, (.sl 0 0 0 (List.len (List.map V.str (linesOf s))) none)), (17, (.bool (decide (l < 0 ∨ c < 0)))), (24, (.bool true))] (by have e := decide_eq_true c3; simp only [e] <;> kernel_rfl) ?_
      refine Wl.batch (b := (base 11 50)) 5 13 [0, 1, 2, 6, 7, 8, 9, 17, 32] [(0, (.str (s))), (1, (.int .i64 (l))), (2, (.int .i64 (c))), (6, (.int .i64 0)), (7, (.bool false)), (8, (.int .i64 0)), (9, (.sl 0 0 0 (List.len (List.map V.str (linesOf s))) none)), (17, (.bool (decide (l < 0 ∨ c < 0)))), (32, (.bool true))] (hp [.row 0 9 1 0 none (List.map V.str (linesOf s))]) [] (by kernel_rfl) rfl .nil ?_
      refine Wl.done 13 rfl ?_
      exact ⟨Le.on' [0, 1, 2, 6, 7, 8, 9, 17, 32] [(0, (.str (s))), (1, (.int .i64 (l))), (2, (.int .i64 (c))), (6, (.int .i64 0)), (7, (.bool false)), (8, (.int .i64 0)), (9, (.sl 0 0 0 (List.len (List.map V.str (linesOf s))) none)), (17, (.bool (decide (l < 0 ∨ c < 0)))), (32, (.bool true))] (by kernel_rfl) (by rw [decOr c3] <;> kernel_rfl), by kernel_rfl⟩
    · refine Wl.known [(0, (.str (s))), (1, (.int .i64 (l))), (2, (.int .i64 (c))), (6, (.int .i64 0)), (7, (.bool false)), (8, (.int .i64 0)), (9, (.sl 0 0 0 (List.len (List.map V.str (linesOf s))) none)), (17, (.bool (decide (l < 0 ∨ c < 0)))), (24, (.bool false))] (by have e := decide_eq_false c3; simp only [e] <;> kernel_rfl) ?_
      refine Wl.batch (b := (base 11 50)) 5 9 [0, 1, 2, 6, 7, 8, 9, 17, 24, 25, 28] [(0, (.str (s))), (1, (.int .i64 (l))), (2, (.int .i64 (c))), (6, (.int .i64 0)), (7, (.bool false)), (8, (.int .i64 0)), (9, (.sl 0 0 0 (List.len (List.map V.str (linesOf s))) none)), (17, (.bool (decide (l < 0 ∨ c < 0)))), (24, (.bool false)), (25, (.int .i64 (c))), (28, (.ptr 0 0 ((0 + Int.toNat l) * 1)))] (hp [.row 0 9 1 0 none (List.map V.str (linesOf s))]) [(((0 : Int) ≤ l) ∧ (l < (↑(List.len (List.map V.str (linesOf s))) : Int)))] (by kernel_rfl) rfl (.cons (by omega) .nil) ?_
      refine Wl.load (b := (base 11 50)) (t := 9) (a := (.ptr 0 0 ((0 + Int.toNat l) * 1))) (d := (some 29)) 9 (.str (List.getD (linesOf s) (Int.toNat l) [])) [0, 1, 2, 6, 7, 8, 9, 17, 24, 25, 29] [(0, (.str (s))), (1, (.int .i64 (l))), (2, (.int .i64 (c))), (6, (.int .i64 0)), (7, (.bool false)), (8, (.int .i64 0)), (9, (.sl 0 0 0 (List.len (List.map V.str (linesOf s))) none)), (17, (.bool (decide (l < 0 ∨ c < 0)))), (24, (.bool false)), (25, (.int .i64 (c))), (29, (.str (List.getD (linesOf s) (Int.toNat l) [])))] (by kernel_rfl) (@Go.AM.ld11 (s) (l) (by omega) (by omega)) (by kernel_rfl) ?_
      refine Wl.batch (b := (base 11 50)) 10 13 [0, 1, 2, 6, 7, 8, 9, 17, 32] [(0, (.str (s))), (1, (.int .i64 (l))), (2, (.int .i64 (c))), (6, (.int .i64 0)), (7, (.bool false)), (8, (.int .i64 0)), (9, (.sl 0 0 0 (List.len (List.map V.str (linesOf s))) none)), (17, (.bool (decide (l < 0 ∨ c < 0)))), (32, (.bool (decide ((↑(List.length (List.getD (linesOf s) (Int.toNat l) [])) : Int) < c))))] (hp [.row 0 9 1 0 none (List.map V.str (linesOf s))]) [] (by kernel_rfl) rfl .nil ?_
      refine Wl.done 13 rfl ?_
      exact ⟨Le.on' [0, 1, 2, 6, 7, 8, 9, 17, 32] [(0, (.str (s))), (1, (.int .i64 (l))), (2, (.int .i64 (c))), (6, (.int .i64 0)), (7, (.bool false)), (8, (.int .i64 0)), (9, (.sl 0 0 0 (List.len (List.map V.str (linesOf s))) none)), (17, (.bool (decide (l < 0 ∨ c < 0)))), (32, (.bool (decide ((↑(List.length (List.getD (linesOf s) (Int.toNat l) [])) : Int) < c))))] (by kernel_rfl) (by rw [decOrF c3] <;> kernel_rfl), by kernel_rfl⟩
    refine Wc.condP (p := (↑(List.len (List.map V.str (linesOf s))) : Int) ≤ l ∨ (↑(List.length (List.getD (linesOf s) (Int.toNat l) [])) : Int) < c) (by kernel_rfl) (by kernel_rfl) (fun c4 => ?_) (fun c4 => ?_)
    · refine Wc.seq ?_
      refine Wc.whole (b := (base 11 50)) [0, 1, 2, 6, 7, 8, 9, 17, 32] [(0, (.str (s))), (1, (.int .i64 (l))), (2, (.int .i64 (c))), (6, (.int .i64 0)), (7, (.bool false)), (8, (.int .i64 0)), (9, (.sl 0 0 0 (List.len (List.map V.str (linesOf s))) none)), (17, (.bool (decide (l < 0 ∨ c < 0)))), (32, (.bool (decide ((↑(List.len (List.map V.str (linesOf s))) : Int) ≤ l ∨ (↑(List.length (List.getD (linesOf s) (Int.toNat l) [])) : Int) < c))))] (hp [.row 0 9 1 0 none (List.map V.str (linesOf s))]) [] (by kernel_rfl) .nil ?_
      refine Wc.ret ?_
      refine retX.mk (.tup [(.int .i64 0), (.bool false)]) ⟨rfl, rfl⟩ (by kernel_rfl) ?_
      have hn : ¬ offOk s l c := by unfold offOk; omega
      unfold offN
      rw [if_neg hn, decide_eq_false hn]
      rfl
    · refine Wc.skip ?_
      refine Wc.seq ?_
      refine Wc.seq ?_
      refine Wc.whole (b := (base 11 50)) [0, 1, 2, 6, 7, 8, 9, 17, 32, 35, 36, 37] [(0, (.str (s))), (1, (.int .i64 (l))), (2, (.int .i64 (c))), (6, (.int .i64 0)), (7, (.bool false)), (8, (.int .i64 0)), (9, (.sl 0 0 0 (List.len (List.map V.str (linesOf s))) none)), (17, (.bool (decide (l < 0 ∨ c < 0)))), (32, (.bool (decide ((↑(List.len (List.map V.str (linesOf s))) : Int) ≤ l ∨ (↑(List.length (List.getD (linesOf s) (Int.toNat l) [])) : Int) < c)))), (35, (.sl 0 0 0 (Int.toNat l) none)), (36, (.int .i64 ((↑(Int.toNat l) : Int)))), (37, (.int .i64 0))] (hp [.row 0 9 1 0 none (List.map V.str (linesOf s))]) [(((0 : Int) ≤ l) ∧ (l ≤ (↑(List.len (List.map V.str (linesOf s))) : Int)))] (by kernel_rfl) (.cons (by omega) .nil) ?_
      refine Wc.block ?_
      have hol : ∀ n, n < (linesOf s).length → offL (linesOf s) n + ((linesOf s).getD n []).length ≤ s.length := fun n hn => (line_end s n hn).1
      refine Wc.loop (α := Nat) (fun n => (base 11 50).on [(2, (.int .i64 (c))), (6, (.int .i64 0)), (7, (.bool false)), (8, (.int .i64 (offL (linesOf s) n : Int))), (35, (.sl 0 0 0 (Int.toNat l) none)), (36, (.int .i64 ((↑(Int.toNat l) : Int)))), (37, (.int .i64 (n : Int)))]) (fun _ => (hp [.row 0 9 1 0 none (List.map V.str (linesOf s))])) (fun n => n ≤ l.toNat) (fun n => l.toNat - n) 0 (Le.on [2, 6, 7, 8, 35, 36, 37] (by rw [offL_zero]; kernel_rfl)) rfl (Nat.zero_le _) ?_
      intro n hn
      have ho : offL (linesOf s) n ≤ s.length := offL_le s n (by omega)
      have hol := hol n
      refine Wc.seq ?_
      refine Wc.whole (b := (base 11 50)) [2, 6, 7, 8, 35, 36, 37, 38] [(2, (.int .i64 (c))), (6, (.int .i64 0)), (7, (.bool false)), (8, (.int .i64 ((↑(offL (linesOf s) n) : Int)))), (35, (.sl 0 0 0 (Int.toNat l) none)), (36, (.int .i64 ((↑(Int.toNat l) : Int)))), (37, (.int .i64 ((↑n : Int)))), (38, (.bool (decide ((↑n : Int) < (↑(Int.toNat l) : Int)))))] (hp [.row 0 9 1 0 none (List.map V.str (linesOf s))]) [] (by kernel_rfl) .nil ?_
      refine Wc.seq ?_
      refine Wc.condP (p := (↑n : Int) < (↑(Int.toNat l) : Int)) (by kernel_rfl) (by kernel_rfl) (fun c1 => ?_) (fun c1 => ?_)
      · refine Wc.skip ?_
        refine Wc.seq ?_
        refine Wc.block ?_
        refine Wc.seq ?_
        refine Wc.enter ?_
        refine Wl.batch (b := (base 11 50)) 0 1 [2, 6, 7, 8, 35, 36, 37, 38, 39] [(2, (.int .i64 (c))), (6, (.int .i64 0)), (7, (.bool false)), (8, (.int .i64 ((↑(offL (linesOf s) n) : Int)))), (35, (.sl 0 0 0 (Int.toNat l) none)), (36, (.int .i64 ((↑(Int.toNat l) : Int)))), (37, (.int .i64 ((↑n : Int)))), (38, (.bool (decide ((↑n : Int) < (↑(Int.toNat l) : Int))))), (39, (.ptr 0 0 ((0 + n) * 1)))] (hp [.row 0 9 1 0 none (List.map V.str (linesOf s))]) [(((0 : Int) ≤ (↑n : Int)) ∧ ((↑n : Int) < (↑(Int.toNat l) : Int)))] (by kernel_rfl) rfl (.cons (by omega) .nil) ?_
        refine Wl.load (b := (base 11 50)) (t := 9) (a := (.ptr 0 0 ((0 + n) * 1))) (d := (some 40)) 1 (.str (List.getD (linesOf s) n [])) [2, 6, 7, 8, 35, 36, 37, 38, 40] [(2, (.int .i64 (c))), (6, (.int .i64 0)), (7, (.bool false)), (8, (.int .i64 ((↑(offL (linesOf s) n) : Int)))), (35, (.sl 0 0 0 (Int.toNat l) none)), (36, (.int .i64 ((↑(Int.toNat l) : Int)))), (37, (.int .i64 ((↑n : Int)))), (38, (.bool (decide ((↑n : Int) < (↑(Int.toNat l) : Int))))), (40, (.str (List.getD (linesOf s) n [])))] (by kernel_rfl) (@Go.AM.ld11n (s) (n) (by omega)) (by kernel_rfl) ?_
        refine Wl.batch (b := (base 11 50)) 2 3 [2, 6, 7, 8, 11, 35, 36, 37, 38] [(2, (.int .i64 (c))), (6, (.int .i64 0)), (7, (.bool false)), (8, (.int .i64 ((↑(offL (linesOf s) n) : Int)))), (11, (.str (List.getD (linesOf s) n []))), (35, (.sl 0 0 0 (Int.toNat l) none)), (36, (.int .i64 ((↑(Int.toNat l) : Int)))), (37, (.int .i64 ((↑n : Int)))), (38, (.bool (decide ((↑n : Int) < (↑(Int.toNat l) : Int)))))] (hp [.row 0 9 1 0 none (List.map V.str (linesOf s))]) [] (by kernel_rfl) rfl .nil ?_
        refine Wl.done 3 rfl ?_
        refine Wc.whole (b := (base 11 50)) [2, 6, 7, 8, 11, 35, 36, 37, 38] [(2, (.int .i64 (c))), (6, (.int .i64 0)), (7, (.bool false)), (8, (.int .i64 ((↑(offL (linesOf s) n) : Int) + ((↑(List.length (List.getD (linesOf s) n [])) : Int) + 1)))), (11, (.str (List.getD (linesOf s) n []))), (35, (.sl 0 0 0 (Int.toNat l) none)), (36, (.int .i64 ((↑(Int.toNat l) : Int)))), (37, (.int .i64 ((↑n : Int)))), (38, (.bool (decide ((↑n : Int) < (↑(Int.toNat l) : Int)))))] (hp [.row 0 9 1 0 none (List.map V.str (linesOf s))]) [(((-9223372036854775808 : Int) ≤ (↑(List.length (List.getD (linesOf s) n [])) : Int) + (1 : Int)) ∧ ((↑(List.length (List.getD (linesOf s) n [])) : Int) + (1 : Int) ≤ (9223372036854775807 : Int))), (((-9223372036854775808 : Int) ≤ (↑(offL (linesOf s) n) : Int) + ((↑(List.length (List.getD (linesOf s) n [])) : Int) + (1 : Int))) ∧ ((↑(offL (linesOf s) n) : Int) + ((↑(List.length (List.getD (linesOf s) n [])) : Int) + (1 : Int)) ≤ (9223372036854775807 : Int)))] (by kernel_rfl) (.cons (by omega) (.cons (by omega) .nil)) ?_
        refine Wc.whole (b := (base 11 50)) [2, 6, 7, 8, 11, 35, 36, 37, 38] [(2, (.int .i64 (c))), (6, (.int .i64 0)), (7, (.bool false)), (8, (.int .i64 ((↑(offL (linesOf s) n) : Int) + ((↑(List.length (List.getD (linesOf s) n [])) : Int) + 1)))), (11, (.str (List.getD (linesOf s) n []))), (35, (.sl 0 0 0 (Int.toNat l) none)), (36, (.int .i64 ((↑(Int.toNat l) : Int)))), (37, (.int .i64 ((↑n : Int) + 1))), (38, (.bool (decide ((↑n : Int) < (↑(Int.toNat l) : Int)))))] (hp [.row 0 9 1 0 none (List.map V.str (linesOf s))]) [(((-9223372036854775808 : Int) ≤ (↑n : Int) + (1 : Int)) ∧ ((↑n : Int) + (1 : Int) ≤ (9223372036854775807 : Int)))] (by kernel_rfl) (.cons (by omega) .nil) ?_
        refine ⟨n + 1, Le.on' [2, 6, 7, 8, 35, 36, 37] [(2, V.int IntKind.i64 c), (6, V.int IntKind.i64 0), (7, V.bool false), (8, V.int IntKind.i64 ((offL (linesOf s) n : Int) + ((((linesOf s).getD n []).length : Int) + 1))), (35, V.sl 0 0 0 (Int.toNat l) none), (36, V.int IntKind.i64 (Int.toNat l : Int)), (37, V.int IntKind.i64 ((n : Int) + 1))] (by kernel_rfl) ?_, rfl, by omega, by omega⟩
        rw [offL_succ _ n (by omega), show ((offL (linesOf s) n + ((linesOf s).getD n []).length + 1 : Nat) : Int) = (offL (linesOf s) n : Int) + ((((linesOf s).getD n []).length : Int) + 1) by omega]
        kernel_rfl
      · refine Wc.exit ?_
        refine blockX.here ?_
        refine Wc.seq ?_
        refine Wc.whole (b := (base 11 50)) [2, 6, 7, 8, 35, 36, 37, 38] [(2, (.int .i64 (c))), (6, (.int .i64 ((↑(offL (linesOf s) n) : Int) + c))), (7, (.bool true)), (8, (.int .i64 ((↑(offL (linesOf s) n) : Int)))), (35, (.sl 0 0 0 (Int.toNat l) none)), (36, (.int .i64 ((↑(Int.toNat l) : Int)))), (37, (.int .i64 ((↑n : Int)))), (38, (.bool (decide ((↑n : Int) < (↑(Int.toNat l) : Int)))))] (hp [.row 0 9 1 0 none (List.map V.str (linesOf s))]) [(((-9223372036854775808 : Int) ≤ (↑(offL (linesOf s) n) : Int) + c) ∧ ((↑(offL (linesOf s) n) : Int) + c ≤ (9223372036854775807 : Int)))] (by kernel_rfl) (.cons (by omega) .nil) ?_
        refine Wc.ret ?_
        refine retX.mk (.tup [(.int .i64 ((↑(offL (linesOf s) n) : Int) + c)), (.bool true)]) ⟨rfl, rfl⟩ (by kernel_rfl) ?_
        have hy : offOk s l c := by unfold offOk; omega
        have e : n = l.toNat := by omega
        unfold offN
        rw [if_pos hy, decide_eq_true hy, e]
        rfl
theorem c9n : Cp Tryd.prog EU 9 [.nils] (.str []) := by
  refine Cp.body (fn := Tryd.f9) Tryd.func9 rfl (by kernel_rfl) ?_
  refine Wc.seq ?_
  refine Wc.whole (b := (base 9 31)) [0, 2] [(0, .nils), (2, (.str []))] Heap.empty [] (by kernel_rfl) .nil ?_
  refine Wc.seq ?_
  refine Wc.whole (b := (base 9 31)) [0, 2, 3] [(0, .nils), (2, (.str [])), (3, (.gsl 1 [(.str [97]), (.str [98]), (.str [10]), (.str [13, 10]), (.str [195, 169]), (.str [226, 130, 172]), (.str [240, 159, 152, 128]), (.str [255]), (.str [195]), (.str [237, 160, 128]), (.str [192, 128]), (.str [239, 191, 189]), (.str [32]), (.str [244, 144, 128, 128])] (some 14)))] Heap.empty [] (by kernel_rfl) .nil ?_
  refine Wc.seq ?_
  refine Wc.whole (b := (base 9 31)) [0, 2, 3, 4] [(0, .nils), (2, (.str [])), (3, (.gsl 1 [(.str [97]), (.str [98]), (.str [10]), (.str [13, 10]), (.str [195, 169]), (.str [226, 130, 172]), (.str [240, 159, 152, 128]), (.str [255]), (.str [195]), (.str [237, 160, 128]), (.str [192, 128]), (.str [239, 191, 189]), (.str [32]), (.str [244, 144, 128, 128])] (some 14))), (4, (.str []))] Heap.empty [] (by kernel_rfl) .nil ?_
  refine Wc.seq ?_
  refine Wc.seq ?_
  refine Wc.whole (b := (base 9 31)) [0, 2, 3, 4, 5] [(0, .nils), (2, (.str [])), (3, (.gsl 1 [(.str [97]), (.str [98]), (.str [10]), (.str [13, 10]), (.str [195, 169]), (.str [226, 130, 172]), (.str [240, 159, 152, 128]), (.str [255]), (.str [195]), (.str [237, 160, 128]), (.str [192, 128]), (.str [239, 191, 189]), (.str [32]), (.str [244, 144, 128, 128])] (some 14))), (4, (.str [])), (5, (.int .i64 0))] Heap.empty [] (by kernel_rfl) .nil ?_
  refine Wc.block ?_
  refine Wc.loop (α := Unit) (fun _ => (base 9 31).on [(0, .nils), (2, (.str [])), (3, (.gsl 1 [(.str [97]), (.str [98]), (.str [10]), (.str [13, 10]), (.str [195, 169]), (.str [226, 130, 172]), (.str [240, 159, 152, 128]), (.str [255]), (.str [195]), (.str [237, 160, 128]), (.str [192, 128]), (.str [239, 191, 189]), (.str [32]), (.str [244, 144, 128, 128])] (some 14))), (4, (.str [])), (5, (.int .i64 0))]) (fun _ => Heap.empty) (fun _ => True) (fun _ => 0) () (Le.refl _) rfl trivial ?_
  intro _ _
  refine Wc.seq ?_
  refine Wc.seq ?_
  refine Wc.whole (b := (base 9 31)) [0, 2, 3, 4, 5, 14] [(0, .nils), (2, (.str [])), (3, (.gsl 1 [(.str [97]), (.str [98]), (.str [10]), (.str [13, 10]), (.str [195, 169]), (.str [226, 130, 172]), (.str [240, 159, 152, 128]), (.str [255]), (.str [195]), (.str [237, 160, 128]), (.str [192, 128]), (.str [239, 191, 189]), (.str [32]), (.str [244, 144, 128, 128])] (some 14))), (4, (.str [])), (5, (.int .i64 0)), (14, (.bool false))] Heap.empty [] (by kernel_rfl) .nil ?_
  refine Wc.condF (by kernel_rfl) (by kernel_rfl) ?_
  refine Wc.exit ?_
  refine blockX.here ?_
  refine Wc.seq ?_
  refine Wc.whole (b := (base 9 31)) [0, 2, 3, 4, 5, 14] [(0, .nils), (2, (.str [])), (3, (.gsl 1 [(.str [97]), (.str [98]), (.str [10]), (.str [13, 10]), (.str [195, 169]), (.str [226, 130, 172]), (.str [240, 159, 152, 128]), (.str [255]), (.str [195]), (.str [237, 160, 128]), (.str [192, 128]), (.str [239, 191, 189]), (.str [32]), (.str [244, 144, 128, 128])] (some 14))), (4, (.str [])), (5, (.int .i64 0)), (14, (.bool false))] Heap.empty [] (by kernel_rfl) .nil ?_
  refine Wc.ret ?_
  refine retX.mk (.str []) ⟨rfl, rfl⟩ (by kernel_rfl) ?_
  kernel_rfl
def words : List (List UInt8) := [[97], [98], [10], [13, 10], [195, 169], [226, 130, 172], [240, 159, 152, 128], [255], [195], [237, 160, 128], [192, 128], [239, 191, 189], [32], [244, 144, 128, 128]]
def textOf (l : List UInt8) : Nat → List UInt8
  | 0 => []
  | n + 1 => textOf l n ++ words.getD ((l.getD n 0).toNat % 14) []
theorem words_le (j : Nat) : (words.getD j []).length ≤ 4 := by
  rcases Nat.lt_or_ge j 14 with h | h
  · have : ∀ k, k < 14 → (words.getD k []).length ≤ 4 := by decide
    exact this j h
  · rw [List.getD_eq_getElem?_getD, List.getElem?_eq_none (by simpa [words] using h)]; simp
theorem textOf_le (l : List UInt8) (n : Nat) : (textOf l n).length ≤ 4 * n := by
  induction n with
  | zero => exact Nat.le_refl _
  | succ n IH =>
    have := words_le ((l.getD n 0).toNat % 14)
    simp only [textOf, List.length_append]; omega
theorem ldw (h : Heap) (j : Int) (h0 : 0 ≤ j) (h1 : j < 14) : load Tryd.prog h 9 (.gptr 1 [(.str [97]), (.str [98]), (.str [10]), (.str [13, 10]), (.str [195, 169]), (.str [226, 130, 172]), (.str [240, 159, 152, 128]), (.str [255]), (.str [195]), (.str [237, 160, 128]), (.str [192, 128]), (.str [239, 191, 189]), (.str [32]), (.str [244, 144, 128, 128])] (j.toNat * 1)) = some (.str (words.getD j.toNat [])) :=
  load_gat (f := V.str) (l := words) (fun _ => rfl) (k := j.toNat) [] str9 siz9 rfl (by show j.toNat < 14; omega)
theorem ldc (h : Heap) (l : List UInt8) (j : Int) (h0 : 0 ≤ j) (h1 : j < l.length) : load Tryd.prog h 5 (.gptr 1 (l.map bV) (j.toNat * 1)) = some (.int .u8 ((l.getD j.toNat 0).toNat : Int)) :=
  load_gat (f := bV) (fun _ => rfl) (k := j.toNat) 0 (by kernel_rfl) (by kernel_rfl) rfl (by omega)
theorem ldwn (h : Heap) (j : Nat) (h1 : j < 14) : load Tryd.prog h 9 (.gptr 1 [(.str [97]), (.str [98]), (.str [10]), (.str [13, 10]), (.str [195, 169]), (.str [226, 130, 172]), (.str [240, 159, 152, 128]), (.str [255]), (.str [195]), (.str [237, 160, 128]), (.str [192, 128]), (.str [239, 191, 189]), (.str [32]), (.str [244, 144, 128, 128])] (j * 1)) = some (.str (words.getD j [])) :=
  load_gat (f := V.str) (l := words) (fun _ => rfl) (k := j) [] str9 siz9 rfl (by show j < 14; omega)
theorem ldcn (h : Heap) (l : List UInt8) (k : Nat) (h1 : k < l.length) : load Tryd.prog h 5 (.gptr 1 (l.map bV) (k * 1)) = some (.int .u8 ((l.getD k 0).toNat : Int)) :=
  load_gat (f := bV) (fun _ => rfl) (k := k) 0 (by kernel_rfl) (by kernel_rfl) rfl (by omega)
/-- The text that choices say. -/
def textS (l : List UInt8) : List UInt8 := textOf l (min l.length 60)
theorem textS_le (l : List UInt8) : (textS l).length ≤ 240 := by
  have := textOf_le l (min l.length 60)
  unfold textS; omega
theorem c9l (l : List UInt8) : Cp Tryd.prog EU 9 [.gsl 1 (l.map bV) none] (.str (textS l)) := by
  refine Cp.body (fn := Tryd.f9) Tryd.func9 rfl (by kernel_rfl) ?_
  refine Wc.seq ?_
  refine Wc.whole (b := (base 9 31)) [0, 2] [(0, (.gsl 1 (List.map bV l) none)), (2, (.str []))] Heap.empty [] (by kernel_rfl) .nil ?_
  refine Wc.seq ?_
  refine Wc.whole (b := (base 9 31)) [0, 2, 3] [(0, (.gsl 1 (List.map bV l) none)), (2, (.str [])), (3, (.gsl 1 [(.str [97]), (.str [98]), (.str [10]), (.str [13, 10]), (.str [195, 169]), (.str [226, 130, 172]), (.str [240, 159, 152, 128]), (.str [255]), (.str [195]), (.str [237, 160, 128]), (.str [192, 128]), (.str [239, 191, 189]), (.str [32]), (.str [244, 144, 128, 128])] (some 14)))] Heap.empty [] (by kernel_rfl) .nil ?_
  refine Wc.seq ?_
  refine Wc.whole (b := (base 9 31)) [0, 2, 3, 4] [(0, (.gsl 1 (List.map bV l) none)), (2, (.str [])), (3, (.gsl 1 [(.str [97]), (.str [98]), (.str [10]), (.str [13, 10]), (.str [195, 169]), (.str [226, 130, 172]), (.str [240, 159, 152, 128]), (.str [255]), (.str [195]), (.str [237, 160, 128]), (.str [192, 128]), (.str [239, 191, 189]), (.str [32]), (.str [244, 144, 128, 128])] (some 14))), (4, (.str []))] Heap.empty [] (by kernel_rfl) .nil ?_
  refine Wc.seq ?_
  refine Wc.seq ?_
  refine Wc.whole (b := (base 9 31)) [0, 2, 3, 4, 5] [(0, (.gsl 1 (List.map bV l) none)), (2, (.str [])), (3, (.gsl 1 [(.str [97]), (.str [98]), (.str [10]), (.str [13, 10]), (.str [195, 169]), (.str [226, 130, 172]), (.str [240, 159, 152, 128]), (.str [255]), (.str [195]), (.str [237, 160, 128]), (.str [192, 128]), (.str [239, 191, 189]), (.str [32]), (.str [244, 144, 128, 128])] (some 14))), (4, (.str [])), (5, (.int .i64 0))] Heap.empty [] (by kernel_rfl) .nil ?_
  refine Wc.block ?_
  refine Wc.loop (α := Nat) (fun n => (base 9 31).on [(0, (.gsl 1 (List.map bV l) none)), (2, (.str [])), (3, (.gsl 1 [(.str [97]), (.str [98]), (.str [10]), (.str [13, 10]), (.str [195, 169]), (.str [226, 130, 172]), (.str [240, 159, 152, 128]), (.str [255]), (.str [195]), (.str [237, 160, 128]), (.str [192, 128]), (.str [239, 191, 189]), (.str [32]), (.str [244, 144, 128, 128])] (some 14))), (4, (.str (textOf l n))), (5, (.int .i64 (n : Int)))]) (fun _ => Heap.empty) (fun n => n ≤ l.length ∧ n ≤ 60) (fun n => 60 - n) 0 (Le.refl _) rfl ⟨Nat.zero_le _, Nat.zero_le _⟩ ?_
  rintro n ⟨hn, hm⟩
  have ht := textOf_le l n
  have hlc : List.len (l.map bV) = l.length := by rw [List.len_eq, List.length_map]
  have hlm : (l.map bV).length = l.length := List.length_map _
  have hw := words_le ((l.getD n 0).toNat % 14)
  have hb : (l.getD n 0).toNat < 256 := UInt8.toNat_lt _
  refine Wc.seq ?_
  refine Wc.seq ?_
  refine Wc.enter ?_
  refine Wl.batch (b := (base 9 31)) 0 5 [0, 2, 3, 4, 5, 11] [(0, (.gsl 1 (List.map bV l) none)), (2, (.str [])), (3, (.gsl 1 [(.str [97]), (.str [98]), (.str [10]), (.str [13, 10]), (.str [195, 169]), (.str [226, 130, 172]), (.str [240, 159, 152, 128]), (.str [255]), (.str [195]), (.str [237, 160, 128]), (.str [192, 128]), (.str [239, 191, 189]), (.str [32]), (.str [244, 144, 128, 128])] (some 14))), (4, (.str (textOf l n))), (5, (.int .i64 ((↑n : Int)))), (11, (.bool (decide ((↑n : Int) < (↑(List.length (List.map bV l)) : Int)))))] Heap.empty [] (by kernel_rfl) rfl .nil ?_
  refine Wl.join (b := (base 9 31)) (p := (↑n : Int) < (↑(List.length (List.map bV l)) : Int)) [(0, (.gsl 1 (List.map bV l) none)), (2, (.str [])), (3, (.gsl 1 [(.str [97]), (.str [98]), (.str [10]), (.str [13, 10]), (.str [195, 169]), (.str [226, 130, 172]), (.str [240, 159, 152, 128]), (.str [255]), (.str [195]), (.str [237, 160, 128]), (.str [192, 128]), (.str [239, 191, 189]), (.str [32]), (.str [244, 144, 128, 128])] (some 14))), (4, (.str (textOf l n))), (5, (.int .i64 ((↑n : Int)))), (14, (.bool (decide (((↑n : Int) < (↑(List.length (List.map bV l)) : Int)) ∧ ((↑n : Int) < 60)))))] Heap.empty (fun c1 => ?_) (fun c1 => ?_) ?_
  · refine Wl.known [(0, (.gsl 1 (List.map bV l) none)), (2, (.str [])), (3, (.gsl 1 [(.str [97]), (.str [98]), (.str [10]), (.str [13, 10]), (.str [195, 169]), (.str [226, 130, 172]), (.str [240, 159, 152, 128]), (.str [255]), (.str [195]), (.str [237, 160, 128]), (.str [192, 128]), (.str [239, 191, 189]), (.str [32]), (.str [244, 144, 128, 128])] (some 14))), (4, (.str (textOf l n))), (5, (.int .i64 ((↑n : Int)))), (11, (.bool true))] (by have e := decide_eq_true c1; simp only [e] <;> kernel_rfl) ?_
    refine Wl.batch (b := (base 9 31)) 5 8 [0, 2, 3, 4, 5, 14] [(0, (.gsl 1 (List.map bV l) none)), (2, (.str [])), (3, (.gsl 1 [(.str [97]), (.str [98]), (.str [10]), (.str [13, 10]), (.str [195, 169]), (.str [226, 130, 172]), (.str [240, 159, 152, 128]), (.str [255]), (.str [195]), (.str [237, 160, 128]), (.str [192, 128]), (.str [239, 191, 189]), (.str [32]), (.str [244, 144, 128, 128])] (some 14))), (4, (.str (textOf l n))), (5, (.int .i64 ((↑n : Int)))), (14, (.bool (decide ((↑n : Int) < 60))))] Heap.empty [] (by kernel_rfl) rfl .nil ?_
    refine Wl.done 8 rfl ?_
    exact ⟨Le.on' [0, 2, 3, 4, 5, 14] [(0, (.gsl 1 (List.map bV l) none)), (2, (.str [])), (3, (.gsl 1 [(.str [97]), (.str [98]), (.str [10]), (.str [13, 10]), (.str [195, 169]), (.str [226, 130, 172]), (.str [240, 159, 152, 128]), (.str [255]), (.str [195]), (.str [237, 160, 128]), (.str [192, 128]), (.str [239, 191, 189]), (.str [32]), (.str [244, 144, 128, 128])] (some 14))), (4, (.str (textOf l n))), (5, (.int .i64 ((↑n : Int)))), (14, (.bool (decide ((↑n : Int) < 60))))] (by kernel_rfl) (by rw [decAnd c1] <;> kernel_rfl), by kernel_rfl⟩
  · refine Wl.known [(0, (.gsl 1 (List.map bV l) none)), (2, (.str [])), (3, (.gsl 1 [(.str [97]), (.str [98]), (.str [10]), (.str [13, 10]), (.str [195, 169]), (.str [226, 130, 172]), (.str [240, 159, 152, 128]), (.str [255]), (.str [195]), (.str [237, 160, 128]), (.str [192, 128]), (.str [239, 191, 189]), (.str [32]), (.str [244, 144, 128, 128])] (some 14))), (4, (.str (textOf l n))), (5, (.int .i64 ((↑n : Int)))), (11, (.bool false))] (by have e := decide_eq_false c1; simp only [e] <;> kernel_rfl) ?_
    refine Wl.batch (b := (base 9 31)) 5 8 [0, 2, 3, 4, 5, 14] [(0, (.gsl 1 (List.map bV l) none)), (2, (.str [])), (3, (.gsl 1 [(.str [97]), (.str [98]), (.str [10]), (.str [13, 10]), (.str [195, 169]), (.str [226, 130, 172]), (.str [240, 159, 152, 128]), (.str [255]), (.str [195]), (.str [237, 160, 128]), (.str [192, 128]), (.str [239, 191, 189]), (.str [32]), (.str [244, 144, 128, 128])] (some 14))), (4, (.str (textOf l n))), (5, (.int .i64 ((↑n : Int)))), (14, (.bool false))] Heap.empty [] (by kernel_rfl) rfl .nil ?_
    refine Wl.done 8 rfl ?_
    exact ⟨Le.on' [0, 2, 3, 4, 5, 14] [(0, (.gsl 1 (List.map bV l) none)), (2, (.str [])), (3, (.gsl 1 [(.str [97]), (.str [98]), (.str [10]), (.str [13, 10]), (.str [195, 169]), (.str [226, 130, 172]), (.str [240, 159, 152, 128]), (.str [255]), (.str [195]), (.str [237, 160, 128]), (.str [192, 128]), (.str [239, 191, 189]), (.str [32]), (.str [244, 144, 128, 128])] (some 14))), (4, (.str (textOf l n))), (5, (.int .i64 ((↑n : Int)))), (14, (.bool false))] (by kernel_rfl) (by rw [decAndF c1] <;> kernel_rfl), by kernel_rfl⟩
  refine Wc.condP (p := (↑n : Int) < (↑(List.length (List.map bV l)) : Int) ∧ (↑n : Int) < 60) (by kernel_rfl) (by kernel_rfl) (fun c2 => ?_) (fun c2 => ?_)
  · refine Wc.skip ?_
    refine Wc.seq ?_
    refine Wc.block ?_
    refine Wc.enter ?_
    refine Wl.batch (b := (base 9 31)) 0 5 [0, 2, 3, 4, 5, 14, 17, 18, 21] [(0, (.gsl 1 (List.map bV l) none)), (2, (.str [])), (3, (.gsl 1 [(.str [97]), (.str [98]), (.str [10]), (.str [13, 10]), (.str [195, 169]), (.str [226, 130, 172]), (.str [240, 159, 152, 128]), (.str [255]), (.str [195]), (.str [237, 160, 128]), (.str [192, 128]), (.str [239, 191, 189]), (.str [32]), (.str [244, 144, 128, 128])] (some 14))), (4, (.str (textOf l n))), (5, (.int .i64 ((↑n : Int)))), (14, (.bool (decide ((↑n : Int) < (↑(List.length (List.map bV l)) : Int) ∧ (↑n : Int) < 60)))), (17, (.str (textOf l n))), (18, (.gsl 1 [(.str [97]), (.str [98]), (.str [10]), (.str [13, 10]), (.str [195, 169]), (.str [226, 130, 172]), (.str [240, 159, 152, 128]), (.str [255]), (.str [195]), (.str [237, 160, 128]), (.str [192, 128]), (.str [239, 191, 189]), (.str [32]), (.str [244, 144, 128, 128])] (some 14))), (21, (.gptr 1 (List.map bV l) (n * 1)))] Heap.empty [(((0 : Int) ≤ (↑n : Int)) ∧ ((↑n : Int) < (↑(List.length (List.map bV l)) : Int)))] (by kernel_rfl) rfl (.cons (by omega) .nil) ?_
    refine Wl.load (b := (base 9 31)) (t := 5) (a := (.gptr 1 (List.map bV l) (n * 1))) (d := (some 22)) 5 (.int .u8 ((↑(UInt8.toNat (List.getD l n 0)) : Int))) [0, 2, 3, 4, 5, 14, 17, 18, 22] [(0, (.gsl 1 (List.map bV l) none)), (2, (.str [])), (3, (.gsl 1 [(.str [97]), (.str [98]), (.str [10]), (.str [13, 10]), (.str [195, 169]), (.str [226, 130, 172]), (.str [240, 159, 152, 128]), (.str [255]), (.str [195]), (.str [237, 160, 128]), (.str [192, 128]), (.str [239, 191, 189]), (.str [32]), (.str [244, 144, 128, 128])] (some 14))), (4, (.str (textOf l n))), (5, (.int .i64 ((↑n : Int)))), (14, (.bool (decide ((↑n : Int) < (↑(List.length (List.map bV l)) : Int) ∧ (↑n : Int) < 60)))), (17, (.str (textOf l n))), (18, (.gsl 1 [(.str [97]), (.str [98]), (.str [10]), (.str [13, 10]), (.str [195, 169]), (.str [226, 130, 172]), (.str [240, 159, 152, 128]), (.str [255]), (.str [195]), (.str [237, 160, 128]), (.str [192, 128]), (.str [239, 191, 189]), (.str [32]), (.str [244, 144, 128, 128])] (some 14))), (22, (.int .u8 ((↑(UInt8.toNat (List.getD l n 0)) : Int))))] (by kernel_rfl) (@Go.AM.ldcn (Heap.empty) (l) (n) (by omega)) (by kernel_rfl) ?_
    refine Wl.batch (b := (base 9 31)) 6 11 [0, 2, 3, 4, 5, 14, 17, 27] [(0, (.gsl 1 (List.map bV l) none)), (2, (.str [])), (3, (.gsl 1 [(.str [97]), (.str [98]), (.str [10]), (.str [13, 10]), (.str [195, 169]), (.str [226, 130, 172]), (.str [240, 159, 152, 128]), (.str [255]), (.str [195]), (.str [237, 160, 128]), (.str [192, 128]), (.str [239, 191, 189]), (.str [32]), (.str [244, 144, 128, 128])] (some 14))), (4, (.str (textOf l n))), (5, (.int .i64 ((↑n : Int)))), (14, (.bool (decide ((↑n : Int) < (↑(List.length (List.map bV l)) : Int) ∧ (↑n : Int) < 60)))), (17, (.str (textOf l n))), (27, (.gptr 1 [(.str [97]), (.str [98]), (.str [10]), (.str [13, 10]), (.str [195, 169]), (.str [226, 130, 172]), (.str [240, 159, 152, 128]), (.str [255]), (.str [195]), (.str [237, 160, 128]), (.str [192, 128]), (.str [239, 191, 189]), (.str [32]), (.str [244, 144, 128, 128])] (UInt8.toNat (List.getD l n 0) % 14 * 1)))] Heap.empty [(((-9223372036854775808 : Int) ≤ (↑(UInt8.toNat (List.getD l n (0 : UInt8))) : Int)) ∧ ((↑(UInt8.toNat (List.getD l n (0 : UInt8))) : Int) ≤ (9223372036854775807 : Int))), (((0 : Int) ≤ (↑(UInt8.toNat (List.getD l n (0 : UInt8))) : Int)) ∧ ((0 : Int) < (14 : Int))), (((0 : Int) ≤ (↑(UInt8.toNat (List.getD l n (0 : UInt8))) : Int) % (14 : Int)) ∧ ((↑(UInt8.toNat (List.getD l n (0 : UInt8))) : Int) % (14 : Int) < (14 : Int)))] (by kernel_rfl) rfl (.cons (by omega) (.cons (by omega) (.cons (by omega) .nil))) ?_
    refine Wl.load (b := (base 9 31)) (t := 9) (a := (.gptr 1 [(.str [97]), (.str [98]), (.str [10]), (.str [13, 10]), (.str [195, 169]), (.str [226, 130, 172]), (.str [240, 159, 152, 128]), (.str [255]), (.str [195]), (.str [237, 160, 128]), (.str [192, 128]), (.str [239, 191, 189]), (.str [32]), (.str [244, 144, 128, 128])] (UInt8.toNat (List.getD l n 0) % 14 * 1))) (d := (some 28)) 11 (.str (List.getD words (UInt8.toNat (List.getD l n 0) % 14) [])) [0, 2, 3, 4, 5, 14, 17, 28] [(0, (.gsl 1 (List.map bV l) none)), (2, (.str [])), (3, (.gsl 1 [(.str [97]), (.str [98]), (.str [10]), (.str [13, 10]), (.str [195, 169]), (.str [226, 130, 172]), (.str [240, 159, 152, 128]), (.str [255]), (.str [195]), (.str [237, 160, 128]), (.str [192, 128]), (.str [239, 191, 189]), (.str [32]), (.str [244, 144, 128, 128])] (some 14))), (4, (.str (textOf l n))), (5, (.int .i64 ((↑n : Int)))), (14, (.bool (decide ((↑n : Int) < (↑(List.length (List.map bV l)) : Int) ∧ (↑n : Int) < 60)))), (17, (.str (textOf l n))), (28, (.str (List.getD words (UInt8.toNat (List.getD l n 0) % 14) [])))] (by kernel_rfl) (@Go.AM.ldwn (Heap.empty) (UInt8.toNat (List.getD l n 0) % 14) (by omega)) (by kernel_rfl) ?_
    refine Wl.batch (b := (base 9 31)) 12 14 [0, 2, 3, 4, 5, 14] [(0, (.gsl 1 (List.map bV l) none)), (2, (.str [])), (3, (.gsl 1 [(.str [97]), (.str [98]), (.str [10]), (.str [13, 10]), (.str [195, 169]), (.str [226, 130, 172]), (.str [240, 159, 152, 128]), (.str [255]), (.str [195]), (.str [237, 160, 128]), (.str [192, 128]), (.str [239, 191, 189]), (.str [32]), (.str [244, 144, 128, 128])] (some 14))), (4, (.str (textOf l n ++ List.getD words (UInt8.toNat (List.getD l n 0) % 14) []))), (5, (.int .i64 ((↑n : Int)))), (14, (.bool (decide ((↑n : Int) < (↑(List.length (List.map bV l)) : Int) ∧ (↑n : Int) < 60))))] Heap.empty [(List.length (textOf l n) + List.length (List.getD words (UInt8.toNat (List.getD l n (0 : UInt8)) % (14 : Nat)) []) ≤ (1099511627776 : Nat))] (by kernel_rfl) rfl (.cons (by omega) .nil) ?_
    refine Wl.done 14 rfl ?_
    refine Wc.whole (b := (base 9 31)) [0, 2, 3, 4, 5, 14] [(0, (.gsl 1 (List.map bV l) none)), (2, (.str [])), (3, (.gsl 1 [(.str [97]), (.str [98]), (.str [10]), (.str [13, 10]), (.str [195, 169]), (.str [226, 130, 172]), (.str [240, 159, 152, 128]), (.str [255]), (.str [195]), (.str [237, 160, 128]), (.str [192, 128]), (.str [239, 191, 189]), (.str [32]), (.str [244, 144, 128, 128])] (some 14))), (4, (.str (textOf l n ++ List.getD words (UInt8.toNat (List.getD l n 0) % 14) []))), (5, (.int .i64 ((↑n : Int) + 1))), (14, (.bool (decide ((↑n : Int) < (↑(List.length (List.map bV l)) : Int) ∧ (↑n : Int) < 60))))] Heap.empty [(((-9223372036854775808 : Int) ≤ (↑n : Int) + (1 : Int)) ∧ ((↑n : Int) + (1 : Int) ≤ (9223372036854775807 : Int)))] (by kernel_rfl) (.cons (by omega) .nil) ?_
    exact ⟨n + 1, Le.on [0, 2, 3, 4, 5] (by kernel_rfl), rfl, ⟨by omega, by omega⟩, by omega⟩
  · refine Wc.exit ?_
    refine blockX.here ?_
    refine Wc.seq ?_
    refine Wc.whole (b := (base 9 31)) [0, 2, 3, 4, 5, 14] [(0, (.gsl 1 (List.map bV l) none)), (2, (.str (textOf l n))), (3, (.gsl 1 [(.str [97]), (.str [98]), (.str [10]), (.str [13, 10]), (.str [195, 169]), (.str [226, 130, 172]), (.str [240, 159, 152, 128]), (.str [255]), (.str [195]), (.str [237, 160, 128]), (.str [192, 128]), (.str [239, 191, 189]), (.str [32]), (.str [244, 144, 128, 128])] (some 14))), (4, (.str (textOf l n))), (5, (.int .i64 ((↑n : Int)))), (14, (.bool (decide ((↑n : Int) < (↑(List.length (List.map bV l)) : Int) ∧ (↑n : Int) < 60))))] Heap.empty [] (by kernel_rfl) .nil ?_
    refine Wc.ret ?_
    refine retX.mk (.str (textOf l n)) ⟨rfl, rfl⟩ (by kernel_rfl) ?_
    have e : min l.length 60 = n := by omega
    unfold textS
    rw [e]; rfl

end Go.AM
