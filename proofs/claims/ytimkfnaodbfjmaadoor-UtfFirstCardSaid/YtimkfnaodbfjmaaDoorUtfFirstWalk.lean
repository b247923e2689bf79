/-
  UtfFirst, WALKED over any arguments: it comes to true. No condition.
-/
import Derived.Test.YtimkfnaodbfjmaaDoorUtfWalks
namespace Go.AM
open Go.Proofs
set_option maxRecDepth 100000
set_option maxHeartbeats 4000000

theorem first_n (s : List UInt8) (hs : s.length ≤ 240) (hcs : Cp Tryd.prog EU 9 [.nils] (.str s)) : ∃ v h', Ev Tryd.prog EU (.call 8 [.nils] Heap.empty) (.ret v h') ∧ v = .bool true := by
  have g := chk_ge s
  have w := wide_le s
  refine Ev.body (fn := Tryd.f8) Tryd.func8 rfl (by kernel_rfl) ?_
  refine Wc.seq ?_
  refine Wc.whole (b := (base 8 40)) [0, 2] [(0, .nils), (2, (.bool false))] Heap.empty [] (by kernel_rfl) .nil ?_
  refine Wc.seq ?_
  refine Wc.enter ?_
  refine Wl.batch (b := (base 8 40)) 0 1 [0, 2, 5] [(0, .nils), (2, (.bool false)), (5, .nils)] Heap.empty [] (by kernel_rfl) rfl .nil ?_
  refine Wl.callP (b := (base 8 40)) (h1 := Heap.empty) (h2 := Heap.empty) (v := (.str (s))) (d := (some 6)) 1 [0, 2, 6] [(0, .nils), (2, (.bool false)), (6, (.str (s)))] (@hcs) (by kernel_rfl) (by kernel_rfl) (by kernel_rfl) ?_
  refine Wl.batch (b := (base 8 40)) 2 3 [0, 2, 3] [(0, .nils), (2, (.bool false)), (3, (.str (s)))] Heap.empty [] (by kernel_rfl) rfl .nil ?_
  refine Wl.done 3 rfl ?_
  refine Wc.seq ?_
  refine Wc.enter ?_
  refine Wl.batch (b := (base 8 40)) 0 1 [0, 2, 3, 7] [(0, .nils), (2, (.bool false)), (3, (.str (s))), (7, (.str (s)))] Heap.empty [] (by kernel_rfl) rfl .nil ?_
  refine Wl.callP (b := (base 8 40)) (h1 := Heap.empty) (h2 := Heap.empty) (v := (.int .i64 (chk s))) (d := (some 8)) 1 [0, 2, 3, 8] [(0, .nils), (2, (.bool false)), (3, (.str (s))), (8, (.int .i64 (chk s)))] (@Go.AM.c15 (s)) (by kernel_rfl) (by kernel_rfl) (by kernel_rfl) ?_
  refine Wl.batch (b := (base 8 40)) 2 3 [0, 2, 3, 4] [(0, .nils), (2, (.bool false)), (3, (.str (s))), (4, (.int .i64 (chk s)))] Heap.empty [] (by kernel_rfl) rfl .nil ?_
  refine Wl.done 3 rfl ?_
  refine Wc.seq ?_
  refine Wc.seq ?_
  refine Wc.whole (b := (base 8 40)) [0, 2, 3, 4, 10] [(0, .nils), (2, (.bool false)), (3, (.str (s))), (4, (.int .i64 (chk s))), (10, (.bool (decide (chk s < 0))))] Heap.empty [] (by kernel_rfl) .nil ?_
  refine Wc.condP (p := chk s < 0) (by kernel_rfl) (by kernel_rfl) (fun c1 => ?_) (fun c1 => ?_)
  · refine Wc.seq ?_
    refine Wc.enter ?_
    refine Wl.batch (b := (base 8 40)) 0 3 [0, 2, 3, 4, 10, 12, 13] [(0, .nils), (2, (.bool false)), (3, (.str (s))), (4, (.int .i64 (chk s))), (10, (.bool (decide (chk s < 0)))), (12, (.bool true)), (13, (.str (s)))] Heap.empty [] (by kernel_rfl) rfl .nil ?_
    refine Wl.callP (b := (base 8 40)) (h1 := Heap.empty) (h2 := Heap.empty) (v := (.int .i64 ((↑(wide s) : Int)))) (d := (some 14)) 3 [0, 2, 3, 4, 10, 12, 14] [(0, .nils), (2, (.bool false)), (3, (.str (s))), (4, (.int .i64 (chk s))), (10, (.bool (decide (chk s < 0)))), (12, (.bool true)), (14, (.int .i64 ((↑(wide s) : Int))))] (@Go.AM.c16 (s) (by omega)) (by kernel_rfl) (by kernel_rfl) (by kernel_rfl) ?_
    refine Wl.batch (b := (base 8 40)) 4 9 [0, 2, 3, 4, 10] [(0, .nils), (2, (.bool (decide ((↑(wide s) : Int) ≤ (↑(List.length s) : Int))))), (3, (.str (s))), (4, (.int .i64 (chk s))), (10, (.bool (decide (chk s < 0))))] Heap.empty [] (by kernel_rfl) rfl .nil ?_
    refine Wl.done 9 rfl ?_
    refine Wc.ret ?_
    refine retX.mk (.bool (decide ((↑(wide s) : Int) ≤ (↑(List.length s) : Int)))) ⟨rfl, rfl⟩ (by kernel_rfl) ?_
    rw [decide_eq_true (show ((wide s : Nat) : Int) ≤ s.length by omega)]
  · refine Wc.skip ?_
    refine Wc.seq ?_
    refine Wc.enter ?_
    refine Wl.batch (b := (base 8 40)) 0 8 [0, 2, 3, 4, 10, 26] [(0, .nils), (2, (.bool false)), (3, (.str (s))), (4, (.int .i64 (chk s))), (10, (.bool (decide (chk s < 0)))), (26, (.bool (decide (chk s < (↑(List.length s) : Int)))))] Heap.empty [] (by kernel_rfl) rfl .nil ?_
    refine Wl.known [(0, .nils), (2, (.bool false)), (3, (.str (s))), (4, (.int .i64 (chk s))), (10, (.bool (decide (chk s < 0)))), (26, (.bool true))] (by have e := decide_eq_true (show chk s < (↑(List.length s) : Int) from (by omega)); rw [e] <;> rfl) ?_
    refine Wl.batch (b := (base 8 40)) 8 11 [0, 2, 3, 4, 10, 26, 29] [(0, .nils), (2, (.bool false)), (3, (.str (s))), (4, (.int .i64 (chk s))), (10, (.bool (decide (chk s < 0)))), (26, (.bool true)), (29, (.str (List.take (Int.toNat (chk s)) s)))] Heap.empty [(((0 : Int) ≤ chk s) ∧ (chk s ≤ (↑(List.length s) : Int)))] (by kernel_rfl) rfl (.cons (by omega) .nil) ?_
    refine Wl.callP (b := (base 8 40)) (h1 := Heap.empty) (h2 := Heap.empty) (v := (.int .i64 (chk (List.take (Int.toNat (chk s)) s)))) (d := (some 30)) 11 [0, 2, 3, 4, 10, 26, 30] [(0, .nils), (2, (.bool false)), (3, (.str (s))), (4, (.int .i64 (chk s))), (10, (.bool (decide (chk s < 0)))), (26, (.bool true)), (30, (.int .i64 (chk (List.take (Int.toNat (chk s)) s))))] (@Go.AM.c15 (List.take (Int.toNat (chk s)) s)) (by kernel_rfl) (by kernel_rfl) (by kernel_rfl) ?_
    refine Wl.batch (b := (base 8 40)) 12 15 [0, 2, 3, 4, 10, 33] [(0, .nils), (2, (.bool false)), (3, (.str (s))), (4, (.int .i64 (chk s))), (10, (.bool (decide (chk s < 0)))), (33, (.bool (decide (chk (List.take (Int.toNat (chk s)) s) < 0))))] Heap.empty [] (by kernel_rfl) rfl .nil ?_
    obtain ⟨f1, f2⟩ := first_bad s (by omega)
    refine Wl.known [(0, .nils), (2, (.bool false)), (3, (.str (s))), (4, (.int .i64 (chk s))), (10, (.bool (decide (chk s < 0)))), (33, (.bool true))] (by have e := decide_eq_true (show chk (List.take (Int.toNat (chk s)) s) < 0 from (by with_reducible assumption)); rw [e] <;> rfl) ?_
    refine Wl.batch (b := (base 8 40)) 15 18 [0, 2, 3, 4, 10, 33, 36] [(0, .nils), (2, (.bool false)), (3, (.str (s))), (4, (.int .i64 (chk s))), (10, (.bool (decide (chk s < 0)))), (33, (.bool true)), (36, (.str (List.drop (Int.toNat (chk s)) s)))] Heap.empty [(((0 : Int) ≤ chk s) ∧ (chk s ≤ (↑(List.length s) : Int)))] (by kernel_rfl) rfl (.cons (by omega) .nil) ?_
    refine Wl.callP (b := (base 8 40)) (h1 := Heap.empty) (h2 := Heap.empty) (v := (.int .i64 (chk (List.drop (Int.toNat (chk s)) s)))) (d := (some 37)) 18 [0, 2, 3, 4, 10, 33, 37] [(0, .nils), (2, (.bool false)), (3, (.str (s))), (4, (.int .i64 (chk s))), (10, (.bool (decide (chk s < 0)))), (33, (.bool true)), (37, (.int .i64 (chk (List.drop (Int.toNat (chk s)) s))))] (@Go.AM.c15 (List.drop (Int.toNat (chk s)) s)) (by kernel_rfl) (by kernel_rfl) (by kernel_rfl) ?_
    refine Wl.batch (b := (base 8 40)) 19 22 [0, 2, 3, 4, 10] [(0, .nils), (2, (.bool (decide (chk (List.drop (Int.toNat (chk s)) s) = 0)))), (3, (.str (s))), (4, (.int .i64 (chk s))), (10, (.bool (decide (chk s < 0))))] Heap.empty [] (by kernel_rfl) rfl .nil ?_
    refine Wl.done 22 rfl ?_
    refine Wc.ret ?_
    refine retX.mk (.bool (decide (chk (List.drop (Int.toNat (chk s)) s) = 0))) ⟨rfl, rfl⟩ (by kernel_rfl) ?_
    rw [decide_eq_true f2]
theorem first_l (s l : List UInt8) (hs : s.length ≤ 240) (hcs : Cp Tryd.prog EU 9 [.gsl 1 (l.map bV) none] (.str s)) : ∃ v h', Ev Tryd.prog EU (.call 8 [.gsl 1 (l.map bV) none] Heap.empty) (.ret v h') ∧ v = .bool true := by
  have g := chk_ge s
  have w := wide_le s
  refine Ev.body (fn := Tryd.f8) Tryd.func8 rfl (by kernel_rfl) ?_
  refine Wc.seq ?_
  refine Wc.whole (b := (base 8 40)) [0, 2] [(0, (.gsl 1 (List.map bV l) none)), (2, (.bool false))] Heap.empty [] (by kernel_rfl) .nil ?_
  refine Wc.seq ?_
  refine Wc.enter ?_
  refine Wl.batch (b := (base 8 40)) 0 1 [0, 2, 5] [(0, (.gsl 1 (List.map bV l) none)), (2, (.bool false)), (5, (.gsl 1 (List.map bV l) none))] Heap.empty [] (by kernel_rfl) rfl .nil ?_
  refine Wl.callP (b := (base 8 40)) (h1 := Heap.empty) (h2 := Heap.empty) (v := (.str (s))) (d := (some 6)) 1 [0, 2, 6] [(0, (.gsl 1 (List.map bV l) none)), (2, (.bool false)), (6, (.str (s)))] (@hcs) (by kernel_rfl) (by kernel_rfl) (by kernel_rfl) ?_
  refine Wl.batch (b := (base 8 40)) 2 3 [0, 2, 3] [(0, (.gsl 1 (List.map bV l) none)), (2, (.bool false)), (3, (.str (s)))] Heap.empty [] (by kernel_rfl) rfl .nil ?_
  refine Wl.done 3 rfl ?_
  refine Wc.seq ?_
  refine Wc.enter ?_
  refine Wl.batch (b := (base 8 40)) 0 1 [0, 2, 3, 7] [(0, (.gsl 1 (List.map bV l) none)), (2, (.bool false)), (3, (.str (s))), (7, (.str (s)))] Heap.empty [] (by kernel_rfl) rfl .nil ?_
  refine Wl.callP (b := (base 8 40)) (h1 := Heap.empty) (h2 := Heap.empty) (v := (.int .i64 (chk s))) (d := (some 8)) 1 [0, 2, 3, 8] [(0, (.gsl 1 (List.map bV l) none)), (2, (.bool false)), (3, (.str (s))), (8, (.int .i64 (chk s)))] (@Go.AM.c15 (s)) (by kernel_rfl) (by kernel_rfl) (by kernel_rfl) ?_
  refine Wl.batch (b := (base 8 40)) 2 3 [0, 2, 3, 4] [(0, (.gsl 1 (List.map bV l) none)), (2, (.bool false)), (3, (.str (s))), (4, (.int .i64 (chk s)))] Heap.empty [] (by kernel_rfl) rfl .nil ?_
  refine Wl.done 3 rfl ?_
  refine Wc.seq ?_
  refine Wc.seq ?_
  refine Wc.whole (b := (base 8 40)) [0, 2, 3, 4, 10] [(0, (.gsl 1 (List.map bV l) none)), (2, (.bool false)), (3, (.str (s))), (4, (.int .i64 (chk s))), (10, (.bool (decide (chk s < 0))))] Heap.empty [] (by kernel_rfl) .nil ?_
  refine Wc.condP (p := chk s < 0) (by kernel_rfl) (by kernel_rfl) (fun c1 => ?_) (fun c1 => ?_)
  · refine Wc.seq ?_
    refine Wc.enter ?_
    refine Wl.batch (b := (base 8 40)) 0 3 [0, 2, 3, 4, 10, 12, 13] [(0, (.gsl 1 (List.map bV l) none)), (2, (.bool false)), (3, (.str (s))), (4, (.int .i64 (chk s))), (10, (.bool (decide (chk s < 0)))), (12, (.bool true)), (13, (.str (s)))] Heap.empty [] (by kernel_rfl) rfl .nil ?_
    refine Wl.callP (b := (base 8 40)) (h1 := Heap.empty) (h2 := Heap.empty) (v := (.int .i64 ((↑(wide s) : Int)))) (d := (some 14)) 3 [0, 2, 3, 4, 10, 12, 14] [(0, (.gsl 1 (List.map bV l) none)), (2, (.bool false)), (3, (.str (s))), (4, (.int .i64 (chk s))), (10, (.bool (decide (chk s < 0)))), (12, (.bool true)), (14, (.int .i64 ((↑(wide s) : Int))))] (@Go.AM.c16 (s) (by omega)) (by kernel_rfl) (by kernel_rfl) (by kernel_rfl) ?_
    refine Wl.batch (b := (base 8 40)) 4 9 [0, 2, 3, 4, 10] [(0, (.gsl 1 (List.map bV l) none)), (2, (.bool (decide ((↑(wide s) : Int) ≤ (↑(List.length s) : Int))))), (3, (.str (s))), (4, (.int .i64 (chk s))), (10, (.bool (decide (chk s < 0))))] Heap.empty [] (by kernel_rfl) rfl .nil ?_
    refine Wl.done 9 rfl ?_
    refine Wc.ret ?_
    refine retX.mk (.bool (decide ((↑(wide s) : Int) ≤ (↑(List.length s) : Int)))) ⟨rfl, rfl⟩ (by kernel_rfl) ?_
    rw [decide_eq_true (show ((wide s : Nat) : Int) ≤ s.length by omega)]
  · refine Wc.skip ?_
    refine Wc.seq ?_
    refine Wc.enter ?_
    refine Wl.batch (b := (base 8 40)) 0 8 [0, 2, 3, 4, 10, 26] [(0, (.gsl 1 (List.map bV l) none)), (2, (.bool false)), (3, (.str (s))), (4, (.int .i64 (chk s))), (10, (.bool (decide (chk s < 0)))), (26, (.bool (decide (chk s < (↑(List.length s) : Int)))))] Heap.empty [] (by kernel_rfl) rfl .nil ?_
    refine Wl.known [(0, (.gsl 1 (List.map bV l) none)), (2, (.bool false)), (3, (.str (s))), (4, (.int .i64 (chk s))), (10, (.bool (decide (chk s < 0)))), (26, (.bool true))] (by have e := decide_eq_true (show chk s < (↑(List.length s) : Int) from (by omega)); rw [e] <;> rfl) ?_
    refine Wl.batch (b := (base 8 40)) 8 11 [0, 2, 3, 4, 10, 26, 29] [(0, (.gsl 1 (List.map bV l) none)), (2, (.bool false)), (3, (.str (s))), (4, (.int .i64 (chk s))), (10, (.bool (decide (chk s < 0)))), (26, (.bool true)), (29, (.str (List.take (Int.toNat (chk s)) s)))] Heap.empty [(((0 : Int) ≤ chk s) ∧ (chk s ≤ (↑(List.length s) : Int)))] (by kernel_rfl) rfl (.cons (by omega) .nil) ?_
    refine Wl.callP (b := (base 8 40)) (h1 := Heap.empty) (h2 := Heap.empty) (v := (.int .i64 (chk (List.take (Int.toNat (chk s)) s)))) (d := (some 30)) 11 [0, 2, 3, 4, 10, 26, 30] [(0, (.gsl 1 (List.map bV l) none)), (2, (.bool false)), (3, (.str (s))), (4, (.int .i64 (chk s))), (10, (.bool (decide (chk s < 0)))), (26, (.bool true)), (30, (.int .i64 (chk (List.take (Int.toNat (chk s)) s))))] (@Go.AM.c15 (List.take (Int.toNat (chk s)) s)) (by kernel_rfl) (by kernel_rfl) (by kernel_rfl) ?_
    refine Wl.batch (b := (base 8 40)) 12 15 [0, 2, 3, 4, 10, 33] [(0, (.gsl 1 (List.map bV l) none)), (2, (.bool false)), (3, (.str (s))), (4, (.int .i64 (chk s))), (10, (.bool (decide (chk s < 0)))), (33, (.bool (decide (chk (List.take (Int.toNat (chk s)) s) < 0))))] Heap.empty [] (by kernel_rfl) rfl .nil ?_
    obtain ⟨f1, f2⟩ := first_bad s (by omega)
    refine Wl.known [(0, (.gsl 1 (List.map bV l) none)), (2, (.bool false)), (3, (.str (s))), (4, (.int .i64 (chk s))), (10, (.bool (decide (chk s < 0)))), (33, (.bool true))] (by have e := decide_eq_true (show chk (List.take (Int.toNat (chk s)) s) < 0 from (by with_reducible assumption)); rw [e] <;> rfl) ?_
    refine Wl.batch (b := (base 8 40)) 15 18 [0, 2, 3, 4, 10, 33, 36] [(0, (.gsl 1 (List.map bV l) none)), (2, (.bool false)), (3, (.str (s))), (4, (.int .i64 (chk s))), (10, (.bool (decide (chk s < 0)))), (33, (.bool true)), (36, (.str (List.drop (Int.toNat (chk s)) s)))] Heap.empty [(((0 : Int) ≤ chk s) ∧ (chk s ≤ (↑(List.length s) : Int)))] (by kernel_rfl) rfl (.cons (by omega) .nil) ?_
    refine Wl.callP (b := (base 8 40)) (h1 := Heap.empty) (h2 := Heap.empty) (v := (.int .i64 (chk (List.drop (Int.toNat (chk s)) s)))) (d := (some 37)) 18 [0, 2, 3, 4, 10, 33, 37] [(0, (.gsl 1 (List.map bV l) none)), (2, (.bool false)), (3, (.str (s))), (4, (.int .i64 (chk s))), (10, (.bool (decide (chk s < 0)))), (33, (.bool true)), (37, (.int .i64 (chk (List.drop (Int.toNat (chk s)) s))))] (@Go.AM.c15 (List.drop (Int.toNat (chk s)) s)) (by kernel_rfl) (by kernel_rfl) (by kernel_rfl) ?_
    refine Wl.batch (b := (base 8 40)) 19 22 [0, 2, 3, 4, 10] [(0, (.gsl 1 (List.map bV l) none)), (2, (.bool (decide (chk (List.drop (Int.toNat (chk s)) s) = 0)))), (3, (.str (s))), (4, (.int .i64 (chk s))), (10, (.bool (decide (chk s < 0))))] Heap.empty [] (by kernel_rfl) rfl .nil ?_
    refine Wl.done 22 rfl ?_
    refine Wc.ret ?_
    refine retX.mk (.bool (decide (chk (List.drop (Int.toNat (chk s)) s) = 0))) ⟨rfl, rfl⟩ (by kernel_rfl) ?_
    rw [decide_eq_true f2]
theorem utfFirst_walk (x : V) (l : List UInt8) (hx : Bs x l) : ∃ v h', Ev Tryd.prog EU (.call 8 [x] Heap.empty) (.ret v h') ∧ v = .bool true := by
  rcases hx with ⟨rfl, _⟩ | rfl
  · exact first_n [] (Nat.zero_le _) c9n
  · exact first_l (textS l) l (textS_le l) (c9l l)

end Go.AM
