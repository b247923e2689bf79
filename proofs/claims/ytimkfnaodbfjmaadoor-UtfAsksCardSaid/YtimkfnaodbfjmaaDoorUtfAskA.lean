/-
  THE DOCUMENT's OWN FUNCTIONS, over any text: walked over states of which a part is known. No condition but what each says of its arguments.
-/
import Derived.Test.YtimkfnaodbfjmaaDoorUtfWalks
namespace Go.AM
open Go.Proofs
set_option maxRecDepth 100000
set_option maxHeartbeats 4000000

theorem c10a (s : List UInt8) (hs : s.length ≤ 1099511627776) (p : Int) : Cp Tryd.prog EU 10 [.str s, .int .i64 p] (.tup [.int .i64 (placeL s p), .int .i64 (placeC s p), .bool (decide (placeOk s p))]) := by
  have hb := lastB_ge 10 (s.take p.toNat)
  refine Cp.body (fn := Tryd.f10) Tryd.func10 rfl (by kernel_rfl) ?_
  refine Wc.seq ?_
  refine Wc.whole (b := (base 10 26)) [0, 1, 4, 5, 6] [(0, (.str (s))), (1, (.int .i64 (p))), (4, (.int .i64 0)), (5, (.int .i64 0)), (6, (.bool false))] Heap.empty [] (by kernel_rfl) .nil ?_
  refine Wc.seq ?_
  refine Wc.seq ?_
  refine Wc.enter ?_
  refine Wl.batch (b := (base 10 26)) 0 3 [0, 1, 4, 5, 6, 10] [(0, (.str (s))), (1, (.int .i64 (p))), (4, (.int .i64 0)), (5, (.int .i64 0)), (6, (.bool false)), (10, (.bool (decide (p < 0))))] Heap.empty [] (by kernel_rfl) rfl .nil ?_
  refine Wl.join (b := (base 10 26)) (p := p < 0) [(0, (.str (s))), (1, (.int .i64 (p))), (4, (.int .i64 0)), (5, (.int .i64 0)), (6, (.bool false)), (15, (.bool (decide ((p < 0) ∨ ((↑(List.length s) : Int) < p)))))] Heap.empty (fun c1 => ?_) (fun c1 => ?_) ?_
  · refine Wl.known [(0, (.str (s))), (1, (.int .i64 (p))), (4, (.int .i64 0)), (5, (.int .i64 0)), (6, (.bool false)), (10, (.bool true))] (by have e := decide_eq_true c1; simp only [e] <;> kernel_rfl) ?_
    refine Wl.batch (b := (base 10 26)) 3 8 [0, 1, 4, 5, 6, 15] [(0, (.str (s))), (1, (.int .i64 (p))), (4, (.int .i64 0)), (5, (.int .i64 0)), (6, (.bool false)), (15, (.bool true))] Heap.empty [] (by kernel_rfl) rfl .nil ?_
    refine Wl.done 8 rfl ?_
    exact ⟨Le.on' [0, 1, 4, 5, 6, 15] [(0, (.str (s))), (1, (.int .i64 (p))), (4, (.int .i64 0)), (5, (.int .i64 0)), (6, (.bool false)), (15, (.bool true))] (by kernel_rfl) (by rw [decOr c1] <;> kernel_rfl), by kernel_rfl⟩
  · refine Wl.known [(0, (.str (s))), (1, (.int .i64 (p))), (4, (.int .i64 0)), (5, (.int .i64 0)), (6, (.bool false)), (10, (.bool false))] (by have e := decide_eq_false c1; simp only [e] <;> kernel_rfl) ?_
    refine Wl.batch (b := (base 10 26)) 3 8 [0, 1, 4, 5, 6, 15] [(0, (.str (s))), (1, (.int .i64 (p))), (4, (.int .i64 0)), (5, (.int .i64 0)), (6, (.bool false)), (15, (.bool (decide ((↑(List.length s) : Int) < p))))] Heap.empty [] (by kernel_rfl) rfl .nil ?_
    refine Wl.done 8 rfl ?_
    exact ⟨Le.on' [0, 1, 4, 5, 6, 15] [(0, (.str (s))), (1, (.int .i64 (p))), (4, (.int .i64 0)), (5, (.int .i64 0)), (6, (.bool false)), (15, (.bool (decide ((↑(List.length s) : Int) < p))))] (by kernel_rfl) (by rw [decOrF c1] <;> kernel_rfl), by kernel_rfl⟩
  refine Wc.condP (p := p < 0 ∨ (↑(List.length s) : Int) < p) (by kernel_rfl) (by kernel_rfl) (fun c2 => ?_) (fun c2 => ?_)
  · refine Wc.seq ?_
    refine Wc.whole (b := (base 10 26)) [0, 1, 4, 5, 6, 15] [(0, (.str (s))), (1, (.int .i64 (p))), (4, (.int .i64 0)), (5, (.int .i64 0)), (6, (.bool false)), (15, (.bool (decide (p < 0 ∨ (↑(List.length s) : Int) < p))))] Heap.empty [] (by kernel_rfl) .nil ?_
    refine Wc.ret ?_
    refine retX.mk (.tup [(.int .i64 0), (.int .i64 0), (.bool false)]) ⟨rfl, rfl⟩ (by kernel_rfl) ?_
    have hn : ¬ placeOk s p := by unfold placeOk; omega
    unfold placeL placeC
    rw [if_neg hn, if_neg hn, decide_eq_false hn]
    rfl
  · refine Wc.skip ?_
    refine Wc.seq ?_
    refine Wc.whole (b := (base 10 26)) [0, 1, 4, 5, 6, 7, 15] [(0, (.str (s))), (1, (.int .i64 (p))), (4, (.int .i64 0)), (5, (.int .i64 0)), (6, (.bool false)), (7, (.str (List.take (Int.toNat p) s))), (15, (.bool (decide (p < 0 ∨ (↑(List.length s) : Int) < p))))] Heap.empty [(((0 : Int) ≤ p) ∧ (p ≤ (↑(List.length s) : Int)))] (by kernel_rfl) (.cons (by omega) .nil) ?_
    refine Wc.seq ?_
    refine Wc.enter ?_
    refine Wl.batch (b := (base 10 26)) 0 1 [0, 1, 4, 5, 6, 7, 15, 19] [(0, (.str (s))), (1, (.int .i64 (p))), (4, (.int .i64 0)), (5, (.int .i64 0)), (6, (.bool false)), (7, (.str (List.take (Int.toNat p) s))), (15, (.bool (decide (p < 0 ∨ (↑(List.length s) : Int) < p)))), (19, (.str (List.take (Int.toNat p) s)))] Heap.empty [] (by kernel_rfl) rfl .nil ?_
    refine Wl.callP (b := (base 10 26)) (h1 := Heap.empty) (h2 := Heap.empty) (v := (.int .i64 ((↑(List.count 10 (List.take (Int.toNat p) s)) : Int)))) (d := (some 20)) 1 [0, 1, 4, 5, 6, 7, 15, 20] [(0, (.str (s))), (1, (.int .i64 (p))), (4, (.int .i64 0)), (5, (.int .i64 0)), (6, (.bool false)), (7, (.str (List.take (Int.toNat p) s))), (15, (.bool (decide (p < 0 ∨ (↑(List.length s) : Int) < p)))), (20, (.int .i64 ((↑(List.count 10 (List.take (Int.toNat p) s)) : Int))))] (@Go.AM.c17 (List.take (Int.toNat p) s)) (by kernel_rfl) (by kernel_rfl) (by kernel_rfl) ?_
    refine Wl.batch (b := (base 10 26)) 2 5 [0, 1, 4, 5, 6, 7, 15, 20, 22, 23] [(0, (.str (s))), (1, (.int .i64 (p))), (4, (.int .i64 0)), (5, (.int .i64 0)), (6, (.bool false)), (7, (.str (List.take (Int.toNat p) s))), (15, (.bool (decide (p < 0 ∨ (↑(List.length s) : Int) < p)))), (20, (.int .i64 ((↑(List.count 10 (List.take (Int.toNat p) s)) : Int)))), (22, (.int .i64 (p - 1))), (23, (.str (List.take (Int.toNat p) s)))] Heap.empty [(((-9223372036854775808 : Int) ≤ p - (1 : Int)) ∧ (p - (1 : Int) ≤ (9223372036854775807 : Int)))] (by kernel_rfl) rfl (.cons (by omega) .nil) ?_
    refine Wl.callP (b := (base 10 26)) (h1 := Heap.empty) (h2 := Heap.empty) (v := (.int .i64 (lastB 10 (List.take (Int.toNat p) s)))) (d := (some 24)) 5 [0, 1, 4, 5, 6, 7, 15, 20, 22, 24] [(0, (.str (s))), (1, (.int .i64 (p))), (4, (.int .i64 0)), (5, (.int .i64 0)), (6, (.bool false)), (7, (.str (List.take (Int.toNat p) s))), (15, (.bool (decide (p < 0 ∨ (↑(List.length s) : Int) < p)))), (20, (.int .i64 ((↑(List.count 10 (List.take (Int.toNat p) s)) : Int)))), (22, (.int .i64 (p - 1))), (24, (.int .i64 (lastB 10 (List.take (Int.toNat p) s))))] (@Go.AM.c18 (List.take (Int.toNat p) s) (by (simp only [List.length_take] at *; omega))) (by kernel_rfl) (by kernel_rfl) (by kernel_rfl) ?_
    refine Wl.batch (b := (base 10 26)) 6 10 [0, 1, 4, 5, 6, 7, 15] [(0, (.str (s))), (1, (.int .i64 (p))), (4, (.int .i64 ((↑(List.count 10 (List.take (Int.toNat p) s)) : Int)))), (5, (.int .i64 (p - 1 - lastB 10 (List.take (Int.toNat p) s)))), (6, (.bool true)), (7, (.str (List.take (Int.toNat p) s))), (15, (.bool (decide (p < 0 ∨ (↑(List.length s) : Int) < p))))] Heap.empty [(((-9223372036854775808 : Int) ≤ p - (1 : Int) - lastB (10 : UInt8) (List.take (Int.toNat p) s)) ∧ (p - (1 : Int) - lastB (10 : UInt8) (List.take (Int.toNat p) s) ≤ (9223372036854775807 : Int)))] (by kernel_rfl) rfl (.cons (by (simp only [List.length_take] at *; omega)) .nil) ?_
    refine Wl.done 10 rfl ?_
    refine Wc.ret ?_
    refine retX.mk (.tup [(.int .i64 ((↑(List.count 10 (List.take (Int.toNat p) s)) : Int))), (.int .i64 (p - 1 - lastB 10 (List.take (Int.toNat p) s))), (.bool true)]) ⟨rfl, rfl⟩ (by kernel_rfl) ?_
    have hy : placeOk s p := by unfold placeOk; omega
    have e := lastB_len s p.toNat (by omega)
    unfold placeL placeC
    rw [if_pos hy, if_pos hy, decide_eq_true hy, show p - 1 - lastB 10 (s.take p.toNat) = (lastLen (s.take p.toNat) : Int) by omega]
    rfl
theorem c11a (s : List UInt8) (hs : s.length ≤ 1000) (l c : Int) : Cp Tryd.prog EU 11 [.str s, .int .i64 l, .int .i64 c] (.tup [.int .i64 (offN s l c), .bool (decide (offOk s l c))]) := by
  have hlen := len_lines s
  have hl := linesOf_length s
  have hc := List.count_le_length (a := (10 : UInt8)) (l := s)
  have hll := line_le s l.toNat
  refine Cp.body (fn := Tryd.f11) Tryd.func11 rfl (by kernel_rfl) ?_
  refine Wc.seq ?_
  refine Wc.whole (b := (base 11 50)) [0, 1, 2, 6, 7] [(0, (.str (s))), (1, (.int .i64 (l))), (2, (.int .i64 (c))), (6, (.int .i64 0)), (7, (.bool false))] Heap.empty [] (by kernel_rfl) .nil ?_
  refine Wc.seq ?_
  refine Wc.seq ?_
  refine Wc.enter ?_
  refine Wl.batch (b := (base 11 50)) 0 3 [0, 1, 2, 6, 7, 14] [(0, (.str (s))), (1, (.int .i64 (l))), (2, (.int .i64 (c))), (6, (.int .i64 0)), (7, (.bool false)), (14, (.bool (decide (l < 0))))] Heap.empty [] (by kernel_rfl) rfl .nil ?_
  refine Wl.join (b := (base 11 50)) (p := l < 0) [(0, (.str (s))), (1, (.int .i64 (l))), (2, (.int .i64 (c))), (6, (.int .i64 0)), (7, (.bool false)), (17, (.bool (decide ((l < 0) ∨ (c < 0)))))] Heap.empty (fun c1 => ?_) (fun c1 => ?_) ?_
  · refine Wl.known [(0, (.str (s))), (1, (.int .i64 (l))), (2, (.int .i64 (c))), (6, (.int .i64 0)), (7, (.bool false)), (14, (.bool true))] (by have e := decide_eq_true c1; simp only [e] <;> kernel_rfl) ?_
    refine Wl.batch (b := (base 11 50)) 3 6 [0, 1, 2, 6, 7, 17] [(0, (.str (s))), (1, (.int .i64 (l))), (2, (.int .i64 (c))), (6, (.int .i64 0)), (7, (.bool false)), (17, (.bool true))] Heap.empty [] (by kernel_rfl) rfl .nil ?_
    refine Wl.done 6 rfl ?_
    exact ⟨Le.on' [0, 1, 2, 6, 7, 17] [(0, (.str (s))), (1, (.int .i64 (l))), (2, (.int .i64 (c))), (6, (.int .i64 0)), (7, (.bool false)), (17, (.bool true))] (by kernel_rfl) (by rw [decOr c1] <;> kernel_rfl), by kernel_rfl⟩
  · refine Wl.known [(0, (.str (s))), (1, (.int .i64 (l))), (2, (.int .i64 (c))), (6, (.int .i64 0)), (7, (.bool false)), (14, (.bool false))] (by have e := decide_eq_false c1; simp only [e] <;> kernel_rfl) ?_
    refine Wl.batch (b := (base 11 50)) 3 6 [0, 1, 2, 6, 7, 17] [(0, (.str (s))), (1, (.int .i64 (l))), (2, (.int .i64 (c))), (6, (.int .i64 0)), (7, (.bool false)), (17, (.bool (decide (c < 0))))] Heap.empty [] (by kernel_rfl) rfl .nil ?_
    refine Wl.done 6 rfl ?_
    exact ⟨Le.on' [0, 1, 2, 6, 7, 17] [(0, (.str (s))), (1, (.int .i64 (l))), (2, (.int .i64 (c))), (6, (.int .i64 0)), (7, (.bool false)), (17, (.bool (decide (c < 0))))] (by kernel_rfl) (by rw [decOrF c1] <;> kernel_rfl), by kernel_rfl⟩
  refine Wc.condP (p := l < 0 ∨ c < 0) (by kernel_rfl) (by kernel_rfl) (fun c2 => ?_) (fun c2 => ?_)
  · refine Wc.seq ?_
    refine Wc.whole (b := (base 11 50)) [0, 1, 2, 6, 7, 17] [(0, (.str (s))), (1, (.int .i64 (l))), (2, (.int .i64 (c))), (6, (.int .i64 0)), (7, (.bool false)), (17, (.bool (decide (l < 0 ∨ c < 0))))] Heap.empty [] (by kernel_rfl) .nil ?_
    refine Wc.ret ?_
    refine retX.mk (.tup [(.int .i64 0), (.bool false)]) ⟨rfl, rfl⟩ (by kernel_rfl) ?_
    have hn : ¬ offOk s l c := by unfold offOk; omega
    unfold offN
    rw [if_neg hn, decide_eq_false hn]
    rfl
  · refine Wc.skip ?_
    refine Wc.seq ?_
    refine Wc.enter ?_
    refine Wl.batch (b := (base 11 50)) 0 1 [0, 1, 2, 6, 7, 17, 18] [(0, (.str (s))), (1, (.int .i64 (l))), (2, (.int .i64 (c))), (6, (.int .i64 0)), (7, (.bool false)), (17, (.bool (decide (l < 0 ∨ c < 0)))), (18, (.str (s)))] Heap.empty [] (by kernel_rfl) rfl .nil ?_
    refine Wl.callP (b := (base 11 50)) (h1 := Heap.empty) (h2 := (hp [.row 0 9 1 0 none (List.map V.str (linesOf s))])) (v := (.sl 0 0 0 (List.len (List.map V.str (linesOf s))) none)) (d := (some 19)) 1 [0, 1, 2, 6, 7, 17, 19] [(0, (.str (s))), (1, (.int .i64 (l))), (2, (.int .i64 (c))), (6, (.int .i64 0)), (7, (.bool false)), (17, (.bool (decide (l < 0 ∨ c < 0)))), (19, (.sl 0 0 0 (List.len (List.map V.str (linesOf s))) none))] (@Go.AM.c13 (s) (by assumption)) (by kernel_rfl) (by kernel_rfl) (by kernel_rfl) ?_
    refine Wl.batch (b := (base 11 50)) 2 4 [0, 1, 2, 6, 7, 8, 9, 17] [(0, (.str (s))), (1, (.int .i64 (l))), (2, (.int .i64 (c))), (6, (.int .i64 0)), (7, (.bool false)), (8, (.int .i64 0)), (9, (.sl 0 0 0 (List.len (List.map V.str (linesOf s))) none)), (17, (.bool (decide (l < 0 ∨ c < 0))))] (hp [.row 0 9 1 0 none (List.map V.str (linesOf s))]) [] (by kernel_rfl) rfl .nil ?_
    refine Wl.done 4 rfl ?_
    refine Wc.seq ?_
    refine Wc.seq ?_
    refine Wc.enter ?_
    refine Wl.batch (b := (base 11 50)) 0 5 [0, 1, 2, 6, 7, 8, 9, 17, 24] [(0, (.str (s))), (1, (.int .i64 (l))), (2, (.int .i64 (c))), (6, (.int .i64 0)), (7, (.bool false)), (8, (.int .i64 0)), (9, (.sl 0 0 0 (List.len (List.map V.str (linesOf s))) none)), (17, (.bool (decide (l < 0 ∨ c < 0)))), (24, (.bool (decide ((↑(List.len (List.map V.str (linesOf s))) : Int) ≤ l))))] (hp [.row 0 9 1 0 none (List.map V.str (linesOf s))]) [] (by kernel_rfl) rfl .nil ?_
    refine Wl.join (b := (base 11 50)) (p := (↑(List.len (List.map V.str (linesOf s))) : Int) ≤ l) [(0, (.str (s))), (1, (.int .i64 (l))), (2, (.int .i64 (c))), (6, (.int .i64 0)), (7, (.bool false)), (8, (.int .i64 0)), (9, (.sl 0 0 0 (List.len (List.map V.str (linesOf s))) none)), (17, (.bool (decide (l < 0 ∨ c < 0)))), (32, (.bool (decide (((↑(List.len (List.map V.str (linesOf s))) : Int) ≤ l) ∨ ((↑(List.length (List.getD (linesOf s) (Int.toNat l) [])) : Int) < c)))))] (hp [.row 0 9 1 0 none (List.map V.str (linesOf s))]) (fun c3 => ?_) (fun c3 => ?_) ?_
    · refine Wl.known [(0, (.str (s))), (1, (.int .i64 (l))), (2, (.int .i64 (c))), (6, (.int .i64 0)), (7, (.bool false)), (8, (.int .i64 0)), (9, (.sl 0 0 0 (List.len (List.map V.str (linesOf s))) none)), (17, (.bool (decide (l < 0 ∨ c < 0)))), (24, (.bool true))] (by have e := decide_eq_true c3; simp only [e] <;> kernel_rfl) ?_
      refine Wl.batch (b := (base 11 50)) 5 13 [0, 1, 2, 6, 7, 8, 9, 17, 32] [(0, (.str (s))), (1, (.int .i64 (l))), (2, (.int .i64 (c))), (6, (.int .i64 0)), (7, (.bool false)), (8, (.int .i64 0)), (9, (.sl 0 0 0 (List.len (List.map V.str (linesOf s))) none)), (17, (.bool (decide (l < 0 ∨ c < 0)))), (32, (.bool true))] (hp [.row 0 9 1 0 none (List.map V.str (linesOf s))]) [] (by kernel_rfl) rfl .nil ?_
      refine Wl.done 13 rfl ?_
      exact ⟨Le.on' [0, 1, 2, 6, 7, 8, 9, 17, 32] [(0, (.str (s))), (1, (.int .i64 (l))), (2, (.int .i64 (c))), (6, (.int .i64 0)), (7, (.bool false)), (8, (.int .i64 0)), (9, (.sl 0 0 0 (List.len (List.map V.str (linesOf s))) none)), (17, (.bool (decide (l < 0 ∨ c < 0)))), (32, (.bool true))] (by kernel_rfl) (by rw [decOr c3] <;> kernel_rfl), by kernel_rfl⟩
    · refine Wl.known [(0, (.str (s))), (1, (.int .i64 (l))), (2, (.int .i64 (c))), (6, (.int .i64 0)), (7, (.bool false)), (8, (.int .i64 0)), (9, (.sl 0 0 0 (List.len (List.map V.str (linesOf s))) none)), (17, (.bool (decide (l < 0 ∨ c < 0)))), (24, (.bool false))] (by have e := decide_eq_false c3; simp only [e] <;> kernel_rfl) ?_
      refine Wl.batch (b := (base 11 50)) 5 9 [0, 1, 2, 6, 7, 8, 9, 17, 24, 25, 28] [(0, (.str (s))), (1, (.int .i64 (l))), (2, (.int .i64 (c))), (6, (.int .i64 0)), (7, (.bool false)), (8, (.int .i64 0)), (9, (.sl 0 0 0 (List.len (List.map V.str (linesOf s))) none)), (17, (.bool (decide (l < 0 ∨ c < 0)))), (24, (.bool false)), (25, (.int .i64 (c))), (28, (.ptr 0 0 ((0 + Int.toNat l) * 1)))] (hp [.row 0 9 1 0 none (List.map V.str (linesOf s))]) [(((0 : Int) ≤ l) ∧ (l < (↑(List.len (List.map V.str (linesOf s))) : Int)))] (by kernel_rfl) rfl (.cons (by omega) .nil) ?_
      refine Wl.load (b := (base 11 50)) (t := 9) (a := (.ptr 0 0 ((0 + Int.toNat l) * 1))) (d := (some 29)) 9 (.str (List.getD (linesOf s) (Int.toNat l) [])) [0, 1, 2, 6, 7, 8, 9, 17, 24, 25, 29] [(0, (.str (s))), (1, (.int .i64 (l))), (2, (.int .i64 (c))), (6, (.int .i64 0)), (7, (.bool false)), (8, (.int .i64 0)), (9, (.sl 0 0 0 (List.len (List.map V.str (linesOf s))) none)), (17, (.bool (decide (l < 0 ∨ c < 0)))), (24, (.bool false)), (25, (.int .i64 (c))), (29, (.str (List.getD (linesOf s) (Int.toNat l) [])))] (by kernel_rfl) (@Go.AM.ld11 (s) (l) (by omega) (by omega)) (by kernel_rfl) ?_
      refine Wl.batch (b := (base 11 50)) 10 13 [0, 1, 2, 6, 7, 8, 9, 17, 32] [(0, (.str (s))), (1, (.int .i64 (l))), (2, (.int .i64 (c))), (6, (.int .i64 0)), (7, (.bool false)), (8, (.int .i64 0)), (9, (.sl 0 0 0 (List.len (List.map V.str (linesOf s))) none)), (17, (.bool (decide (l < 0 ∨ c < 0)))), (32, (.bool (decide ((↑(List.length (List.getD (linesOf s) (Int.toNat l) [])) : Int) < c))))] (hp [.row 0 9 1 0 none (List.map V.str (linesOf s))]) [] (by kernel_rfl) rfl .nil ?_
      refine Wl.done 13 rfl ?_
      exact ⟨Le.on' [0, 1, 2, 6, 7, 8, 9, 17, 32] [(0, (.str (s))), (1, (.int .i64 (l))), (2, (.int .i64 (c))), (6, (.int .i64 0)), (7, (.bool false)), (8, (.int .i64 0)), (9, (.sl 0 0 0 (List.len (List.map V.str (linesOf s))) none)), (17, (.bool (decide (l < 0 ∨ c < 0)))), (32, (.bool (decide ((↑(List.length (List.getD (linesOf s) (Int.toNat l) [])) : Int) < c))))] (by kernel_rfl) (by rw [decOrF c3] <;> kernel_rfl), by kernel_rfl⟩
    refine Wc.condP (p := (↑(List.len (List.map V.str (linesOf s))) : Int) ≤ l ∨ (↑(List.length (List.getD (linesOf s) (Int.toNat l) [])) : Int) < c) (by kernel_rfl) (by kernel_rfl) (fun c4 => ?_) (fun c4 => ?_)
    · refine Wc.seq ?_
      refine Wc.whole (b := (base 11 50)) [0, 1, 2, 6, 7, 8, 9, 17, 32] [(0, (.str (s))), (1, (.int .i64 (l))), (2, (.int .i64 (c))), (6, (.int .i64 0)), (7, (.bool false)), (8, (.int .i64 0)), (9, (.sl 0 0 0 (List.len (List.map V.str (linesOf s))) none)), (17, (.bool (decide (l < 0 ∨ c < 0)))), (32, (.bool (decide ((↑(List.len (List.map V.str (linesOf s))) : Int) ≤ l ∨ (↑(List.length (List.getD (linesOf s) (Int.toNat l) [])) : Int) < c))))] (hp [.row 0 9 1 0 none (List.map V.str (linesOf s))]) [] (by kernel_rfl) .nil ?_
      refine Wc.ret ?_
      refine retX.mk (.tup [(.int .i64 0), (.bool false)]) ⟨rfl, rfl⟩ (by kernel_rfl) ?_
      have hn : ¬ offOk s l c := by unfold offOk; omega
      unfold offN
      rw [if_neg hn, decide_eq_false hn]
      rfl
    · refine Wc.skip ?_
      refine Wc.seq ?_
      refine Wc.seq ?_
      refine Wc.whole (b := (base 11 50)) [0, 1, 2, 6, 7, 8, 9, 17, 32, 35, 36, 37] [(0, (.str (s))), (1, (.int .i64 (l))), (2, (.int .i64 (c))), (6, (.int .i64 0)), (7, (.bool false)), (8, (.int .i64 0)), (9, (.sl 0 0 0 (List.len (List.map V.str (linesOf s))) none)), (17, (.bool (decide (l < 0 ∨ c < 0)))), (32, (.bool (decide ((↑(List.len (List.map V.str (linesOf s))) : Int) ≤ l ∨ (↑(List.length (List.getD (linesOf s) (Int.toNat l) [])) : Int) < c)))), (35, (.sl 0 0 0 (Int.toNat l) none)), (36, (.int .i64 ((↑(Int.toNat l) : Int)))), (37, (.int .i64 0))] (hp [.row 0 9 1 0 none (List.map V.str (linesOf s))]) [(((0 : Int) ≤ l) ∧ (l ≤ (↑(List.len (List.map V.str (linesOf s))) : Int)))] (by kernel_rfl) (.cons (by omega) .nil) ?_
      refine Wc.block ?_
      have hol : ∀ n, n < (linesOf s).length → offL (linesOf s) n + ((linesOf s).getD n []).length ≤ s.length := fun n hn => (line_end s n hn).1
      refine Wc.loop (α := Nat) (fun n => (base 11 50).on [(2, (.int .i64 (c))), (6, (.int .i64 0)), (7, (.bool false)), (8, (.int .i64 (offL (linesOf s) n : Int))), (35, (.sl 0 0 0 (Int.toNat l) none)), (36, (.int .i64 ((↑(Int.toNat l) : Int)))), (37, (.int .i64 (n : Int)))]) (fun _ => (hp [.row 0 9 1 0 none (List.map V.str (linesOf s))])) (fun n => n ≤ l.toNat) (fun n => l.toNat - n) 0 (Le.on [2, 6, 7, 8, 35, 36, 37] (by rw [offL_zero]; kernel_rfl)) rfl (Nat.zero_le _) ?_
      intro n hn
      have ho : offL (linesOf s) n ≤ s.length := offL_le s n (by omega)
      have hol := hol n
      refine Wc.seq ?_
      refine Wc.whole (b := (base 11 50)) [2, 6, 7, 8, 35, 36, 37, 38] [(2, (.int .i64 (c))), (6, (.int .i64 0)), (7, (.bool false)), (8, (.int .i64 ((↑(offL (linesOf s) n) : Int)))), (35, (.sl 0 0 0 (Int.toNat l) none)), (36, (.int .i64 ((↑(Int.toNat l) : Int)))), (37, (.int .i64 ((↑n : Int)))), (38, (.bool (decide ((↑n : Int) < (↑(Int.toNat l) : Int)))))] (hp [.row 0 9 1 0 none (List.map V.str (linesOf s))]) [] (by kernel_rfl) .nil ?_
      refine Wc.seq ?_
      refine Wc.condP (p := (↑n : Int) < (↑(Int.toNat l) : Int)) (by kernel_rfl) (by kernel_rfl) (fun c1 => ?_) (fun c1 => ?_)
      · refine Wc.skip ?_
        refine Wc.seq ?_
        refine Wc.block ?_
        refine Wc.seq ?_
        refine Wc.enter ?_
        refine Wl.batch (b := (base 11 50)) 0 1 [2, 6, 7, 8, 35, 36, 37, 38, 39] [(2, (.int .i64 (c))), (6, (.int .i64 0)), (7, (.bool false)), (8, (.int .i64 ((↑(offL (linesOf s) n) : Int)))), (35, (.sl 0 0 0 (Int.toNat l) none)), (36, (.int .i64 ((↑(Int.toNat l) : Int)))), (37, (.int .i64 ((↑n : Int)))), (38, (.bool (decide ((↑n : Int) < (↑(Int.toNat l) : Int))))), (39, (.ptr 0 0 ((0 + n) * 1)))] (hp [.row 0 9 1 0 none (List.map V.str (linesOf s))]) [(((0 : Int) ≤ (↑n : Int)) ∧ ((↑n : Int) < (↑(Int.toNat l) : Int)))] (by kernel_rfl) rfl (.cons (by omega) .nil) ?_
        refine Wl.load (b := (base 11 50)) (t := 9) (a := (.ptr 0 0 ((0 + n) * 1))) (d := (some 40)) 1 (.str (List.getD (linesOf s) n [])) [2, 6, 7, 8, 35, 36, 37, 38, 40] [(2, (.int .i64 (c))), (6, (.int .i64 0)), (7, (.bool false)), (8, (.int .i64 ((↑(offL (linesOf s) n) : Int)))), (35, (.sl 0 0 0 (Int.toNat l) none)), (36, (.int .i64 ((↑(Int.toNat l) : Int)))), (37, (.int .i64 ((↑n : Int)))), (38, (.bool (decide ((↑n : Int) < (↑(Int.toNat l) : Int))))), (40, (.str (List.getD (linesOf s) n [])))] (by kernel_rfl) (@Go.AM.ld11n (s) (n) (by omega)) (by kernel_rfl) ?_
        refine Wl.batch (b := (base 11 50)) 2 3 [2, 6, 7, 8, 11, 35, 36, 37, 38] [(2, (.int .i64 (c))), (6, (.int .i64 0)), (7, (.bool false)), (8, (.int .i64 ((↑(offL (linesOf s) n) : Int)))), (11, (.str (List.getD (linesOf s) n []))), (35, (.sl 0 0 0 (Int.toNat l) none)), (36, (.int .i64 ((↑(Int.toNat l) : Int)))), (37, (.int .i64 ((↑n : Int)))), (38, (.bool (decide ((↑n : Int) < (↑(Int.toNat l) : Int)))))] (hp [.row 0 9 1 0 none (List.map V.str (linesOf s))]) [] (by kernel_rfl) rfl .nil ?_
        refine Wl.done 3 rfl ?_
        refine Wc.whole (b := (base 11 50)) [2, 6, 7, 8, 11, 35, 36, 37, 38] [(2, (.int .i64 (c))), (6, (.int .i64 0)), (7, (.bool false)), (8, (.int .i64 ((↑(offL (linesOf s) n) : Int) + ((↑(List.length (List.getD (linesOf s) n [])) : Int) + 1)))), (11, (.str (List.getD (linesOf s) n []))), (35, (.sl 0 0 0 (Int.toNat l) none)), (36, (.int .i64 ((↑(Int.toNat l) : Int)))), (37, (.int .i64 ((↑n : Int)))), (38, (.bool (decide ((↑n : Int) < (↑(Int.toNat l) : Int)))))] (hp [.row 0 9 1 0 none (List.map V.str (linesOf s))]) [(((-9223372036854775808 : Int) ≤ (↑(List.length (List.getD (linesOf s) n [])) : Int) + (1 : Int)) ∧ ((↑(List.length (List.getD (linesOf s) n [])) : Int) + (1 : Int) ≤ (9223372036854775807 : Int))), (((-9223372036854775808 : Int) ≤ (↑(offL (linesOf s) n) : Int) + ((↑(List.length (List.getD (linesOf s) n [])) : Int) + (1 : Int))) ∧ ((↑(offL (linesOf s) n) : Int) + ((↑(List.length (List.getD (linesOf s) n [])) : Int) + (1 : Int)) ≤ (9223372036854775807 : Int)))] (by kernel_rfl) (.cons (by omega) (.cons (by omega) .nil)) ?_
        refine Wc.whole (b := (base 11 50)) [2, 6, 7, 8, 11, 35, 36, 37, 38] [(2, (.int .i64 (c))), (6, (.int .i64 0)), (7, (.bool false)), (8, (.int .i64 ((↑(offL (linesOf s) n) : Int) + ((↑(List.length (List.getD (linesOf s) n [])) : Int) + 1)))), (11, (.str (List.getD (linesOf s) n []))), (35, (.sl 0 0 0 (Int.toNat l) none)), (36, (.int .i64 ((↑(Int.toNat l) : Int)))), (37, (.int .i64 ((↑n : Int) + 1))), (38, (.bool (decide ((↑n : Int) < (↑(Int.toNat l) : Int)))))] (hp [.row 0 9 1 0 none (List.map V.str (linesOf s))]) [(((-9223372036854775808 : Int) ≤ (↑n : Int) + (1 : Int)) ∧ ((↑n : Int) + (1 : Int) ≤ (9223372036854775807 : Int)))] (by kernel_rfl) (.cons (by omega) .nil) ?_
        refine ⟨n + 1, Le.on' [2, 6, 7, 8, 35, 36, 37] [(2, V.int IntKind.i64 c), (6, V.int IntKind.i64 0), (7, V.bool false), (8, V.int IntKind.i64 ((offL (linesOf s) n : Int) + ((((linesOf s).getD n []).length : Int) + 1))), (35, V.sl 0 0 0 (Int.toNat l) none), (36, V.int IntKind.i64 (Int.toNat l : Int)), (37, V.int IntKind.i64 ((n : Int) + 1))] (by kernel_rfl) ?_, rfl, by omega, by omega⟩
        rw [offL_succ _ n (by omega), show ((offL (linesOf s) n + ((linesOf s).getD n []).length + 1 : Nat) : Int) = (offL (linesOf s) n : Int) + ((((linesOf s).getD n []).length : Int) + 1) by omega]
        kernel_rfl
      · refine Wc.exit ?_
        refine blockX.here ?_
        refine Wc.seq ?_
        refine Wc.whole (b := (base 11 50)) [2, 6, 7, 8, 35, 36, 37, 38] [(2, (.int .i64 (c))), (6, (.int .i64 ((↑(offL (linesOf s) n) : Int) + c))), (7, (.bool true)), (8, (.int .i64 ((↑(offL (linesOf s) n) : Int)))), (35, (.sl 0 0 0 (Int.toNat l) none)), (36, (.int .i64 ((↑(Int.toNat l) : Int)))), (37, (.int .i64 ((↑n : Int)))), (38, (.bool (decide ((↑n : Int) < (↑(Int.toNat l) : Int)))))] (hp [.row 0 9 1 0 none (List.map V.str (linesOf s))]) [(((-9223372036854775808 : Int) ≤ (↑(offL (linesOf s) n) : Int) + c) ∧ ((↑(offL (linesOf s) n) : Int) + c ≤ (9223372036854775807 : Int)))] (by kernel_rfl) (.cons (by omega) .nil) ?_
        refine Wc.ret ?_
        refine retX.mk (.tup [(.int .i64 ((↑(offL (linesOf s) n) : Int) + c)), (.bool true)]) ⟨rfl, rfl⟩ (by kernel_rfl) ?_
        have hy : offOk s l c := by unfold offOk; omega
        have e : n = l.toNat := by omega
        unfold offN
        rw [if_pos hy, decide_eq_true hy, e]
        rfl
/-- How many bytes stand behind a first one. -/
def moreI (b : Int) : Int := if b < 128 then 0 else if 194 ≤ b ∧ b ≤ 223 then 1 else if 224 ≤ b ∧ b ≤ 239 then 2 else if 240 ≤ b ∧ b ≤ 244 then 3 else -1
theorem c39 (b : Int) : Cp Tryd.prog EU 39 [.int .u8 b] (.int .i64 (moreI b)) := by
  refine Cp.body (fn := Tryd.f39) Tryd.func39 rfl (by kernel_rfl) ?_
  by_cases a1 : b < 128
  · refine Wc.seq ?_
    refine Wc.whole (b := (base 39 23)) [0, 2] [(0, (.int .u8 (b))), (2, (.int .i64 0))] Heap.empty [] (by kernel_rfl) .nil ?_
    refine Wc.seq ?_
    refine Wc.seq ?_
    refine Wc.whole (b := (base 39 23)) [0, 2, 4] [(0, (.int .u8 (b))), (2, (.int .i64 0)), (4, (.bool (decide (b < 128))))] Heap.empty [] (by kernel_rfl) .nil ?_
    refine Wc.condP (p := b < 128) (by kernel_rfl) (by kernel_rfl) (fun c1 => ?_) (fun c1 => absurd (show b < 128 from (by with_reducible assumption)) c1)
    refine Wc.seq ?_
    refine Wc.whole (b := (base 39 23)) [0, 2, 4] [(0, (.int .u8 (b))), (2, (.int .i64 0)), (4, (.bool (decide (b < 128))))] Heap.empty [] (by kernel_rfl) .nil ?_
    refine Wc.ret ?_
    refine retX.mk (.int .i64 0) ⟨rfl, rfl⟩ (by kernel_rfl) ?_
    refine congrArg (fun x => some (V.int .i64 x)) ?_
    unfold moreI
    repeat' split
    all_goals omega
  · by_cases a2 : 194 ≤ b
    · by_cases a3 : b ≤ 223
      · refine Wc.seq ?_
        refine Wc.whole (b := (base 39 23)) [0, 2] [(0, (.int .u8 (b))), (2, (.int .i64 0))] Heap.empty [] (by kernel_rfl) .nil ?_
        refine Wc.seq ?_
        refine Wc.seq ?_
        refine Wc.whole (b := (base 39 23)) [0, 2, 4] [(0, (.int .u8 (b))), (2, (.int .i64 0)), (4, (.bool (decide (b < 128))))] Heap.empty [] (by kernel_rfl) .nil ?_
        refine Wc.condP (p := b < 128) (by kernel_rfl) (by kernel_rfl) (fun c1 => absurd c1 (show ¬ (b < 128) from (by with_reducible assumption))) (fun c1 => ?_)
        refine Wc.skip ?_
        refine Wc.seq ?_
        refine Wc.seq ?_
        refine Wc.enter ?_
        refine Wl.batch (b := (base 39 23)) 0 3 [0, 2, 4, 7] [(0, (.int .u8 (b))), (2, (.int .i64 0)), (4, (.bool (decide (b < 128)))), (7, (.bool (decide (194 ≤ b))))] Heap.empty [] (by kernel_rfl) rfl .nil ?_
        refine Wl.known [(0, (.int .u8 (b))), (2, (.int .i64 0)), (4, (.bool (decide (b < 128)))), (7, (.bool true))] (by have e := decide_eq_true (show 194 ≤ b from (by with_reducible assumption)); rw [e] <;> rfl) ?_
        refine Wl.batch (b := (base 39 23)) 3 6 [0, 2, 4, 10] [(0, (.int .u8 (b))), (2, (.int .i64 0)), (4, (.bool (decide (b < 128)))), (10, (.bool (decide (b ≤ 223))))] Heap.empty [] (by kernel_rfl) rfl .nil ?_
        refine Wl.done 6 rfl ?_
        refine Wc.condP (p := b ≤ 223) (by kernel_rfl) (by kernel_rfl) (fun c3 => ?_) (fun c3 => absurd (show b ≤ 223 from (by with_reducible assumption)) c3)
        refine Wc.seq ?_
        refine Wc.whole (b := (base 39 23)) [0, 2, 4, 10] [(0, (.int .u8 (b))), (2, (.int .i64 1)), (4, (.bool (decide (b < 128)))), (10, (.bool (decide (b ≤ 223))))] Heap.empty [] (by kernel_rfl) .nil ?_
        refine Wc.ret ?_
        refine retX.mk (.int .i64 1) ⟨rfl, rfl⟩ (by kernel_rfl) ?_
        refine congrArg (fun x => some (V.int .i64 x)) ?_
        unfold moreI
        repeat' split
        all_goals omega
      · by_cases a4 : 224 ≤ b
        · by_cases a5 : b ≤ 239
          · refine Wc.seq ?_
            refine Wc.whole (b := (base 39 23)) [0, 2] [(0, (.int .u8 (b))), (2, (.int .i64 0))] Heap.empty [] (by kernel_rfl) .nil ?_
            refine Wc.seq ?_
            refine Wc.seq ?_
            refine Wc.whole (b := (base 39 23)) [0, 2, 4] [(0, (.int .u8 (b))), (2, (.int .i64 0)), (4, (.bool (decide (b < 128))))] Heap.empty [] (by kernel_rfl) .nil ?_
            refine Wc.condP (p := b < 128) (by kernel_rfl) (by kernel_rfl) (fun c1 => absurd c1 (show ¬ (b < 128) from (by with_reducible assumption))) (fun c1 => ?_)
            refine Wc.skip ?_
            refine Wc.seq ?_
            refine Wc.seq ?_
            refine Wc.enter ?_
            refine Wl.batch (b := (base 39 23)) 0 3 [0, 2, 4, 7] [(0, (.int .u8 (b))), (2, (.int .i64 0)), (4, (.bool (decide (b < 128)))), (7, (.bool (decide (194 ≤ b))))] Heap.empty [] (by kernel_rfl) rfl .nil ?_
            refine Wl.known [(0, (.int .u8 (b))), (2, (.int .i64 0)), (4, (.bool (decide (b < 128)))), (7, (.bool true))] (by have e := decide_eq_true (show 194 ≤ b from (by with_reducible assumption)); rw [e] <;> rfl) ?_
            refine Wl.batch (b := (base 39 23)) 3 6 [0, 2, 4, 10] [(0, (.int .u8 (b))), (2, (.int .i64 0)), (4, (.bool (decide (b < 128)))), (10, (.bool (decide (b ≤ 223))))] Heap.empty [] (by kernel_rfl) rfl .nil ?_
            refine Wl.done 6 rfl ?_
            refine Wc.condP (p := b ≤ 223) (by kernel_rfl) (by kernel_rfl) (fun c3 => absurd c3 (show ¬ (b ≤ 223) from (by with_reducible assumption))) (fun c3 => ?_)
            refine Wc.skip ?_
            refine Wc.seq ?_
            refine Wc.seq ?_
            refine Wc.enter ?_
            refine Wl.batch (b := (base 39 23)) 0 3 [0, 2, 4, 10, 13] [(0, (.int .u8 (b))), (2, (.int .i64 0)), (4, (.bool (decide (b < 128)))), (10, (.bool (decide (b ≤ 223)))), (13, (.bool (decide (224 ≤ b))))] Heap.empty [] (by kernel_rfl) rfl .nil ?_
            refine Wl.known [(0, (.int .u8 (b))), (2, (.int .i64 0)), (4, (.bool (decide (b < 128)))), (10, (.bool (decide (b ≤ 223)))), (13, (.bool true))] (by have e := decide_eq_true (show 224 ≤ b from (by with_reducible assumption)); rw [e] <;> rfl) ?_
            refine Wl.batch (b := (base 39 23)) 3 6 [0, 2, 4, 10, 16] [(0, (.int .u8 (b))), (2, (.int .i64 0)), (4, (.bool (decide (b < 128)))), (10, (.bool (decide (b ≤ 223)))), (16, (.bool (decide (b ≤ 239))))] Heap.empty [] (by kernel_rfl) rfl .nil ?_
            refine Wl.done 6 rfl ?_
            refine Wc.condP (p := b ≤ 239) (by kernel_rfl) (by kernel_rfl) (fun c5 => ?_) (fun c5 => absurd (show b ≤ 239 from (by with_reducible assumption)) c5)
            refine Wc.seq ?_
            refine Wc.whole (b := (base 39 23)) [0, 2, 4, 10, 16] [(0, (.int .u8 (b))), (2, (.int .i64 2)), (4, (.bool (decide (b < 128)))), (10, (.bool (decide (b ≤ 223)))), (16, (.bool (decide (b ≤ 239))))] Heap.empty [] (by kernel_rfl) .nil ?_
            refine Wc.ret ?_
            refine retX.mk (.int .i64 2) ⟨rfl, rfl⟩ (by kernel_rfl) ?_
            refine congrArg (fun x => some (V.int .i64 x)) ?_
            unfold moreI
            repeat' split
            all_goals omega
          · by_cases a6 : b ≤ 244
            · refine Wc.seq ?_
              refine Wc.whole (b := (base 39 23)) [0, 2] [(0, (.int .u8 (b))), (2, (.int .i64 0))] Heap.empty [] (by kernel_rfl) .nil ?_
              refine Wc.seq ?_
              refine Wc.seq ?_
              refine Wc.whole (b := (base 39 23)) [0, 2, 4] [(0, (.int .u8 (b))), (2, (.int .i64 0)), (4, (.bool (decide (b < 128))))] Heap.empty [] (by kernel_rfl) .nil ?_
              refine Wc.condP (p := b < 128) (by kernel_rfl) (by kernel_rfl) (fun c1 => absurd c1 (show ¬ (b < 128) from (by with_reducible assumption))) (fun c1 => ?_)
              refine Wc.skip ?_
              refine Wc.seq ?_
              refine Wc.seq ?_
              refine Wc.enter ?_
              refine Wl.batch (b := (base 39 23)) 0 3 [0, 2, 4, 7] [(0, (.int .u8 (b))), (2, (.int .i64 0)), (4, (.bool (decide (b < 128)))), (7, (.bool (decide (194 ≤ b))))] Heap.empty [] (by kernel_rfl) rfl .nil ?_
              refine Wl.known [(0, (.int .u8 (b))), (2, (.int .i64 0)), (4, (.bool (decide (b < 128)))), (7, (.bool true))] (by have e := decide_eq_true (show 194 ≤ b from (by with_reducible assumption)); rw [e] <;> rfl) ?_
              refine Wl.batch (b := (base 39 23)) 3 6 [0, 2, 4, 10] [(0, (.int .u8 (b))), (2, (.int .i64 0)), (4, (.bool (decide (b < 128)))), (10, (.bool (decide (b ≤ 223))))] Heap.empty [] (by kernel_rfl) rfl .nil ?_
              refine Wl.done 6 rfl ?_
              refine Wc.condP (p := b ≤ 223) (by kernel_rfl) (by kernel_rfl) (fun c3 => absurd c3 (show ¬ (b ≤ 223) from (by with_reducible assumption))) (fun c3 => ?_)
              refine Wc.skip ?_
              refine Wc.seq ?_
              refine Wc.seq ?_
              refine Wc.enter ?_
              refine Wl.batch (b := (base 39 23)) 0 3 [0, 2, 4, 10, 13] [(0, (.int .u8 (b))), (2, (.int .i64 0)), (4, (.bool (decide (b < 128)))), (10, (.bool (decide (b ≤ 223)))), (13, (.bool (decide (224 ≤ b))))] Heap.empty [] (by kernel_rfl) rfl .nil ?_
              refine Wl.known [(0, (.int .u8 (b))), (2, (.int .i64 0)), (4, (.bool (decide (b < 128)))), (10, (.bool (decide (b ≤ 223)))), (13, (.bool true))] (by have e := decide_eq_true (show 224 ≤ b from (by with_reducible assumption)); rw [e] <;> rfl) ?_
              refine Wl.batch (b := (base 39 23)) 3 6 [0, 2, 4, 10, 16] [(0, (.int .u8 (b))), (2, (.int .i64 0)), (4, (.bool (decide (b < 128)))), (10, (.bool (decide (b ≤ 223)))), (16, (.bool (decide (b ≤ 239))))] Heap.empty [] (by kernel_rfl) rfl .nil ?_
              refine Wl.done 6 rfl ?_
              refine Wc.condP (p := b ≤ 239) (by kernel_rfl) (by kernel_rfl) (fun c5 => absurd c5 (show ¬ (b ≤ 239) from (by with_reducible assumption))) (fun c5 => ?_)
              refine Wc.skip ?_
              refine Wc.seq ?_
              refine Wc.seq ?_
              refine Wc.enter ?_
              refine Wl.batch (b := (base 39 23)) 0 3 [0, 2, 4, 10, 16, 19] [(0, (.int .u8 (b))), (2, (.int .i64 0)), (4, (.bool (decide (b < 128)))), (10, (.bool (decide (b ≤ 223)))), (16, (.bool (decide (b ≤ 239)))), (19, (.bool (decide (240 ≤ b))))] Heap.empty [] (by kernel_rfl) rfl .nil ?_
              refine Wl.known [(0, (.int .u8 (b))), (2, (.int .i64 0)), (4, (.bool (decide (b < 128)))), (10, (.bool (decide (b ≤ 223)))), (16, (.bool (decide (b ≤ 239)))), (19, (.bool true))] (by have e := decide_eq_true (show 240 ≤ b from (by omega)); rw [e] <;> rfl) ?_
              refine Wl.batch (b := (base 39 23)) 3 6 [0, 2, 4, 10, 16, 22] [(0, (.int .u8 (b))), (2, (.int .i64 0)), (4, (.bool (decide (b < 128)))), (10, (.bool (decide (b ≤ 223)))), (16, (.bool (decide (b ≤ 239)))), (22, (.bool (decide (b ≤ 244))))] Heap.empty [] (by kernel_rfl) rfl .nil ?_
              refine Wl.done 6 rfl ?_
              refine Wc.condP (p := b ≤ 244) (by kernel_rfl) (by kernel_rfl) (fun c7 => ?_) (fun c7 => absurd (show b ≤ 244 from (by with_reducible assumption)) c7)
              refine Wc.seq ?_
              refine Wc.whole (b := (base 39 23)) [0, 2, 4, 10, 16, 22] [(0, (.int .u8 (b))), (2, (.int .i64 3)), (4, (.bool (decide (b < 128)))), (10, (.bool (decide (b ≤ 223)))), (16, (.bool (decide (b ≤ 239)))), (22, (.bool (decide (b ≤ 244))))] Heap.empty [] (by kernel_rfl) .nil ?_
              refine Wc.ret ?_
              refine retX.mk (.int .i64 3) ⟨rfl, rfl⟩ (by kernel_rfl) ?_
              refine congrArg (fun x => some (V.int .i64 x)) ?_
              unfold moreI
              repeat' split
              all_goals omega
            · refine Wc.seq ?_
              refine Wc.whole (b := (base 39 23)) [0, 2] [(0, (.int .u8 (b))), (2, (.int .i64 0))] Heap.empty [] (by kernel_rfl) .nil ?_
              refine Wc.seq ?_
              refine Wc.seq ?_
              refine Wc.whole (b := (base 39 23)) [0, 2, 4] [(0, (.int .u8 (b))), (2, (.int .i64 0)), (4, (.bool (decide (b < 128))))] Heap.empty [] (by kernel_rfl) .nil ?_
              refine Wc.condP (p := b < 128) (by kernel_rfl) (by kernel_rfl) (fun c1 => absurd c1 (show ¬ (b < 128) from (by with_reducible assumption))) (fun c1 => ?_)
              refine Wc.skip ?_
              refine Wc.seq ?_
              refine Wc.seq ?_
              refine Wc.enter ?_
              refine Wl.batch (b := (base 39 23)) 0 3 [0, 2, 4, 7] [(0, (.int .u8 (b))), (2, (.int .i64 0)), (4, (.bool (decide (b < 128)))), (7, (.bool (decide (194 ≤ b))))] Heap.empty [] (by kernel_rfl) rfl .nil ?_
              refine Wl.known [(0, (.int .u8 (b))), (2, (.int .i64 0)), (4, (.bool (decide (b < 128)))), (7, (.bool true))] (by have e := decide_eq_true (show 194 ≤ b from (by with_reducible assumption)); rw [e] <;> rfl) ?_
              refine Wl.batch (b := (base 39 23)) 3 6 [0, 2, 4, 10] [(0, (.int .u8 (b))), (2, (.int .i64 0)), (4, (.bool (decide (b < 128)))), (10, (.bool (decide (b ≤ 223))))] Heap.empty [] (by kernel_rfl) rfl .nil ?_
              refine Wl.done 6 rfl ?_
              refine Wc.condP (p := b ≤ 223) (by kernel_rfl) (by kernel_rfl) (fun c3 => absurd c3 (show ¬ (b ≤ 223) from (by with_reducible assumption))) (fun c3 => ?_)
              refine Wc.skip ?_
              refine Wc.seq ?_
              refine Wc.seq ?_
              refine Wc.enter ?_
              refine Wl.batch (b := (base 39 23)) 0 3 [0, 2, 4, 10, 13] [(0, (.int .u8 (b))), (2, (.int .i64 0)), (4, (.bool (decide (b < 128)))), (10, (.bool (decide (b ≤ 223)))), (13, (.bool (decide (224 ≤ b))))] Heap.empty [] (by kernel_rfl) rfl .nil ?_
              refine Wl.known [(0, (.int .u8 (b))), (2, (.int .i64 0)), (4, (.bool (decide (b < 128)))), (10, (.bool (decide (b ≤ 223)))), (13, (.bool true))] (by have e := decide_eq_true (show 224 ≤ b from (by with_reducible assumption)); rw [e] <;> rfl) ?_
              refine Wl.batch (b := (base 39 23)) 3 6 [0, 2, 4, 10, 16] [(0, (.int .u8 (b))), (2, (.int .i64 0)), (4, (.bool (decide (b < 128)))), (10, (.bool (decide (b ≤ 223)))), (16, (.bool (decide (b ≤ 239))))] Heap.empty [] (by kernel_rfl) rfl .nil ?_
              refine Wl.done 6 rfl ?_
              refine Wc.condP (p := b ≤ 239) (by kernel_rfl) (by kernel_rfl) (fun c5 => absurd c5 (show ¬ (b ≤ 239) from (by with_reducible assumption))) (fun c5 => ?_)
              refine Wc.skip ?_
              refine Wc.seq ?_
              refine Wc.seq ?_
              refine Wc.enter ?_
              refine Wl.batch (b := (base 39 23)) 0 3 [0, 2, 4, 10, 16, 19] [(0, (.int .u8 (b))), (2, (.int .i64 0)), (4, (.bool (decide (b < 128)))), (10, (.bool (decide (b ≤ 223)))), (16, (.bool (decide (b ≤ 239)))), (19, (.bool (decide (240 ≤ b))))] Heap.empty [] (by kernel_rfl) rfl .nil ?_
              refine Wl.known [(0, (.int .u8 (b))), (2, (.int .i64 0)), (4, (.bool (decide (b < 128)))), (10, (.bool (decide (b ≤ 223)))), (16, (.bool (decide (b ≤ 239)))), (19, (.bool true))] (by have e := decide_eq_true (show 240 ≤ b from (by omega)); rw [e] <;> rfl) ?_
              refine Wl.batch (b := (base 39 23)) 3 6 [0, 2, 4, 10, 16, 22] [(0, (.int .u8 (b))), (2, (.int .i64 0)), (4, (.bool (decide (b < 128)))), (10, (.bool (decide (b ≤ 223)))), (16, (.bool (decide (b ≤ 239)))), (22, (.bool (decide (b ≤ 244))))] Heap.empty [] (by kernel_rfl) rfl .nil ?_
              refine Wl.done 6 rfl ?_
              refine Wc.condP (p := b ≤ 244) (by kernel_rfl) (by kernel_rfl) (fun c7 => absurd c7 (show ¬ (b ≤ 244) from (by with_reducible assumption))) (fun c7 => ?_)
              refine Wc.skip ?_
              refine Wc.seq ?_
              refine Wc.whole (b := (base 39 23)) [0, 2, 4, 10, 16, 22] [(0, (.int .u8 (b))), (2, (.int .i64 (-1))), (4, (.bool (decide (b < 128)))), (10, (.bool (decide (b ≤ 223)))), (16, (.bool (decide (b ≤ 239)))), (22, (.bool (decide (b ≤ 244))))] Heap.empty [] (by kernel_rfl) .nil ?_
              refine Wc.ret ?_
              refine retX.mk (.int .i64 (-1)) ⟨rfl, rfl⟩ (by kernel_rfl) ?_
              refine congrArg (fun x => some (V.int .i64 x)) ?_
              unfold moreI
              repeat' split
              all_goals omega
        · omega
    · refine Wc.seq ?_
      refine Wc.whole (b := (base 39 23)) [0, 2] [(0, (.int .u8 (b))), (2, (.int .i64 0))] Heap.empty [] (by kernel_rfl) .nil ?_
      refine Wc.seq ?_
      refine Wc.seq ?_
      refine Wc.whole (b := (base 39 23)) [0, 2, 4] [(0, (.int .u8 (b))), (2, (.int .i64 0)), (4, (.bool (decide (b < 128))))] Heap.empty [] (by kernel_rfl) .nil ?_
      refine Wc.condP (p := b < 128) (by kernel_rfl) (by kernel_rfl) (fun c1 => absurd c1 (show ¬ (b < 128) from (by with_reducible assumption))) (fun c1 => ?_)
      refine Wc.skip ?_
      refine Wc.seq ?_
      refine Wc.seq ?_
      refine Wc.enter ?_
      refine Wl.batch (b := (base 39 23)) 0 3 [0, 2, 4, 7] [(0, (.int .u8 (b))), (2, (.int .i64 0)), (4, (.bool (decide (b < 128)))), (7, (.bool (decide (194 ≤ b))))] Heap.empty [] (by kernel_rfl) rfl .nil ?_
      refine Wl.known [(0, (.int .u8 (b))), (2, (.int .i64 0)), (4, (.bool (decide (b < 128)))), (7, (.bool false))] (by have e := decide_eq_false (show ¬ (194 ≤ b) from (by with_reducible assumption)); rw [e] <;> rfl) ?_
      refine Wl.batch (b := (base 39 23)) 3 6 [0, 2, 4, 10] [(0, (.int .u8 (b))), (2, (.int .i64 0)), (4, (.bool (decide (b < 128)))), (10, (.bool false))] Heap.empty [] (by kernel_rfl) rfl .nil ?_
      refine Wl.done 6 rfl ?_
      refine Wc.condF (by kernel_rfl) (by kernel_rfl) ?_
      refine Wc.skip ?_
      refine Wc.seq ?_
      refine Wc.seq ?_
      refine Wc.enter ?_
      refine Wl.batch (b := (base 39 23)) 0 3 [0, 2, 4, 10, 13] [(0, (.int .u8 (b))), (2, (.int .i64 0)), (4, (.bool (decide (b < 128)))), (10, (.bool false)), (13, (.bool (decide (224 ≤ b))))] Heap.empty [] (by kernel_rfl) rfl .nil ?_
      refine Wl.known [(0, (.int .u8 (b))), (2, (.int .i64 0)), (4, (.bool (decide (b < 128)))), (10, (.bool false)), (13, (.bool false))] (by have e := decide_eq_false (show ¬ (224 ≤ b) from (by omega)); rw [e] <;> rfl) ?_
      refine Wl.batch (b := (base 39 23)) 3 6 [0, 2, 4, 10, 16] [(0, (.int .u8 (b))), (2, (.int .i64 0)), (4, (.bool (decide (b < 128)))), (10, (.bool false)), (16, (.bool false))] Heap.empty [] (by kernel_rfl) rfl .nil ?_
      refine Wl.done 6 rfl ?_
      refine Wc.condF (by kernel_rfl) (by kernel_rfl) ?_
      refine Wc.skip ?_
      refine Wc.seq ?_
      refine Wc.seq ?_
      refine Wc.enter ?_
      refine Wl.batch (b := (base 39 23)) 0 3 [0, 2, 4, 10, 16, 19] [(0, (.int .u8 (b))), (2, (.int .i64 0)), (4, (.bool (decide (b < 128)))), (10, (.bool false)), (16, (.bool false)), (19, (.bool (decide (240 ≤ b))))] Heap.empty [] (by kernel_rfl) rfl .nil ?_
      refine Wl.known [(0, (.int .u8 (b))), (2, (.int .i64 0)), (4, (.bool (decide (b < 128)))), (10, (.bool false)), (16, (.bool false)), (19, (.bool false))] (by have e := decide_eq_false (show ¬ (240 ≤ b) from (by omega)); rw [e] <;> rfl) ?_
      refine Wl.batch (b := (base 39 23)) 3 6 [0, 2, 4, 10, 16, 22] [(0, (.int .u8 (b))), (2, (.int .i64 0)), (4, (.bool (decide (b < 128)))), (10, (.bool false)), (16, (.bool false)), (22, (.bool false))] Heap.empty [] (by kernel_rfl) rfl .nil ?_
      refine Wl.done 6 rfl ?_
      refine Wc.condF (by kernel_rfl) (by kernel_rfl) ?_
      refine Wc.skip ?_
      refine Wc.seq ?_
      refine Wc.whole (b := (base 39 23)) [0, 2, 4, 10, 16, 22] [(0, (.int .u8 (b))), (2, (.int .i64 (-1))), (4, (.bool (decide (b < 128)))), (10, (.bool false)), (16, (.bool false)), (22, (.bool false))] Heap.empty [] (by kernel_rfl) .nil ?_
      refine Wc.ret ?_
      refine retX.mk (.int .i64 (-1)) ⟨rfl, rfl⟩ (by kernel_rfl) ?_
      refine congrArg (fun x => some (V.int .i64 x)) ?_
      unfold moreI
      repeat' split
      all_goals omega
theorem one_nil : one [] = 0 := rfl
theorem c33nil : Cp Tryd.prog EU 33 [.str []] (.int .i64 0) := by
  refine Cp.body (fn := Tryd.f33) Tryd.func33 rfl (by kernel_rfl) ?_
  refine Wc.seq ?_
  refine Wc.whole (b := (base 33 80)) [0, 2] [(0, (.str [])), (2, (.int .i64 0))] Heap.empty [] (by kernel_rfl) .nil ?_
  refine Wc.seq ?_
  refine Wc.seq ?_
  refine Wc.whole (b := (base 33 80)) [0, 2, 22] [(0, (.str [])), (2, (.int .i64 0)), (22, (.bool true))] Heap.empty [] (by kernel_rfl) .nil ?_
  refine Wc.condT (by kernel_rfl) (by kernel_rfl) ?_
  refine Wc.seq ?_
  refine Wc.whole (b := (base 33 80)) [0, 2, 22] [(0, (.str [])), (2, (.int .i64 0)), (22, (.bool true))] Heap.empty [] (by kernel_rfl) .nil ?_
  refine Wc.ret ?_
  refine retX.mk (.int .i64 0) ⟨rfl, rfl⟩ (by kernel_rfl) ?_
  kernel_rfl
theorem c33none (s : List UInt8) (hs : s ≠ []) (hn : moreI (byteAt s 0) = -1) : Cp Tryd.prog EU 33 [.str s] (.int .i64 0) := by
  have h0 : 0 < s.length := List.length_pos_iff.2 hs
  have hs' : ¬ s = [] := hs
  have hc := c39 (byteAt s 0)
  rw [hn] at hc
  refine Cp.body (fn := Tryd.f33) Tryd.func33 rfl (by kernel_rfl) ?_
  refine Wc.seq ?_
  refine Wc.whole (b := (base 33 80)) [0, 2] [(0, (.str (s))), (2, (.int .i64 0))] Heap.empty [] (by kernel_rfl) .nil ?_
  refine Wc.seq ?_
  refine Wc.seq ?_
  refine Wc.enter ?_
  refine Wl.batch (b := (base 33 80)) 0 3 [0, 2, 9] [(0, (.str (s))), (2, (.int .i64 0)), (9, (.bool (decide (s = []))))] Heap.empty [] (by kernel_rfl) rfl .nil ?_
  refine Wl.known [(0, (.str (s))), (2, (.int .i64 0)), (9, (.bool false))] (by have e := decide_eq_false (show ¬ (s = []) from (by with_reducible assumption)); rw [e] <;> rfl) ?_
  refine Wl.batch (b := (base 33 80)) 3 5 [0, 2, 9, 11] [(0, (.str (s))), (2, (.int .i64 0)), (9, (.bool false)), (11, (.int .u8 (byteAt s 0)))] Heap.empty [(((0 : Int) ≤ (0 : Int)) ∧ ((0 : Int) < (↑(List.length s) : Int)))] (by kernel_rfl) rfl (.cons (by omega) .nil) ?_
  refine Wl.callP (b := (base 33 80)) (h1 := Heap.empty) (h2 := Heap.empty) (v := (.int .i64 (-1))) (d := (some 12)) 5 [0, 2, 9, 12] [(0, (.str (s))), (2, (.int .i64 0)), (9, (.bool false)), (12, (.int .i64 (-1)))] (@hc) (by kernel_rfl) (by kernel_rfl) (by kernel_rfl) ?_
  refine Wl.batch (b := (base 33 80)) 6 16 [0, 2, 22] [(0, (.str (s))), (2, (.int .i64 0)), (22, (.bool true))] Heap.empty [] (by kernel_rfl) rfl .nil ?_
  refine Wl.done 16 rfl ?_
  refine Wc.condT (by kernel_rfl) (by kernel_rfl) ?_
  refine Wc.seq ?_
  refine Wc.whole (b := (base 33 80)) [0, 2, 22] [(0, (.str (s))), (2, (.int .i64 0)), (22, (.bool true))] Heap.empty [] (by kernel_rfl) .nil ?_
  refine Wc.ret ?_
  refine retX.mk (.int .i64 0) ⟨rfl, rfl⟩ (by kernel_rfl) ?_
  kernel_rfl
theorem c33short (s : List UInt8) (hs : s ≠ []) (n : Int) (h1 : 1 ≤ n) (h2 : (s.length : Int) ≤ n) (hn : moreI (byteAt s 0) = n) : Cp Tryd.prog EU 33 [.str s] (.int .i64 0) := by
  have h0 : 0 < s.length := List.length_pos_iff.2 hs
  have hs' : ¬ s = [] := hs
  have hc := c39 (byteAt s 0)
  rw [hn] at hc
  refine Cp.body (fn := Tryd.f33) Tryd.func33 rfl (by kernel_rfl) ?_
  refine Wc.seq ?_
  refine Wc.whole (b := (base 33 80)) [0, 2] [(0, (.str (s))), (2, (.int .i64 0))] Heap.empty [] (by kernel_rfl) .nil ?_
  refine Wc.seq ?_
  refine Wc.seq ?_
  refine Wc.enter ?_
  refine Wl.batch (b := (base 33 80)) 0 3 [0, 2, 9] [(0, (.str (s))), (2, (.int .i64 0)), (9, (.bool (decide (s = []))))] Heap.empty [] (by kernel_rfl) rfl .nil ?_
  refine Wl.known [(0, (.str (s))), (2, (.int .i64 0)), (9, (.bool false))] (by have e := decide_eq_false (show ¬ (s = []) from (by with_reducible assumption)); rw [e] <;> rfl) ?_
  refine Wl.batch (b := (base 33 80)) 3 5 [0, 2, 9, 11] [(0, (.str (s))), (2, (.int .i64 0)), (9, (.bool false)), (11, (.int .u8 (byteAt s 0)))] Heap.empty [(((0 : Int) ≤ (0 : Int)) ∧ ((0 : Int) < (↑(List.length s) : Int)))] (by kernel_rfl) rfl (.cons (by omega) .nil) ?_
  refine Wl.callP (b := (base 33 80)) (h1 := Heap.empty) (h2 := Heap.empty) (v := (.int .i64 (n))) (d := (some 12)) 5 [0, 2, 9, 12] [(0, (.str (s))), (2, (.int .i64 0)), (9, (.bool false)), (12, (.int .i64 (n)))] (@hc) (by kernel_rfl) (by kernel_rfl) (by kernel_rfl) ?_
  refine Wl.batch (b := (base 33 80)) 6 9 [0, 2, 15] [(0, (.str (s))), (2, (.int .i64 0)), (15, (.bool (decide (n < 0))))] Heap.empty [] (by kernel_rfl) rfl .nil ?_
  refine Wl.known [(0, (.str (s))), (2, (.int .i64 0)), (15, (.bool false))] (by have e := decide_eq_false (show ¬ (n < 0) from (by omega)); rw [e] <;> rfl) ?_
  refine Wl.batch (b := (base 33 80)) 9 11 [0, 2, 15, 17] [(0, (.str (s))), (2, (.int .i64 0)), (15, (.bool false)), (17, (.int .u8 (byteAt s 0)))] Heap.empty [(((0 : Int) ≤ (0 : Int)) ∧ ((0 : Int) < (↑(List.length s) : Int)))] (by kernel_rfl) rfl (.cons (by omega) .nil) ?_
  refine Wl.callP (b := (base 33 80)) (h1 := Heap.empty) (h2 := Heap.empty) (v := (.int .i64 (n))) (d := (some 18)) 11 [0, 2, 15, 18] [(0, (.str (s))), (2, (.int .i64 0)), (15, (.bool false)), (18, (.int .i64 (n)))] (@hc) (by kernel_rfl) (by kernel_rfl) (by kernel_rfl) ?_
  refine Wl.batch (b := (base 33 80)) 12 16 [0, 2, 22] [(0, (.str (s))), (2, (.int .i64 0)), (22, (.bool (decide ((↑(List.length s) : Int) ≤ n))))] Heap.empty [] (by kernel_rfl) rfl .nil ?_
  refine Wl.done 16 rfl ?_
  refine Wc.condP (p := (↑(List.length s) : Int) ≤ n) (by kernel_rfl) (by kernel_rfl) (fun c3 => ?_) (fun c3 => absurd (show (↑(List.length s) : Int) ≤ n from (by with_reducible assumption)) c3)
  refine Wc.seq ?_
  refine Wc.whole (b := (base 33 80)) [0, 2, 22] [(0, (.str (s))), (2, (.int .i64 0)), (22, (.bool (decide ((↑(List.length s) : Int) ≤ n))))] Heap.empty [] (by kernel_rfl) .nil ?_
  refine Wc.ret ?_
  refine retX.mk (.int .i64 0) ⟨rfl, rfl⟩ (by kernel_rfl) ?_
  kernel_rfl
theorem c33a (s : List UInt8) (hs : s ≠ []) (hn : moreI (byteAt s 0) = 0) (h128 : byteAt s 0 < 128) (hb : 0 ≤ byteAt s 0) : Cp Tryd.prog EU 33 [.str s] (.int .i64 1) := by
  have h0 : 0 < s.length := List.length_pos_iff.2 hs
  have hs' : ¬ s = [] := hs
  have hc := c39 (byteAt s 0)
  rw [hn] at hc
  refine Cp.body (fn := Tryd.f33) Tryd.func33 rfl (by kernel_rfl) ?_
  refine Wc.seq ?_
  refine Wc.whole (b := (base 33 80)) [0, 2] [(0, (.str (s))), (2, (.int .i64 0))] Heap.empty [] (by kernel_rfl) .nil ?_
  refine Wc.seq ?_
  refine Wc.seq ?_
  refine Wc.enter ?_
  refine Wl.batch (b := (base 33 80)) 0 3 [0, 2, 9] [(0, (.str (s))), (2, (.int .i64 0)), (9, (.bool (decide (s = []))))] Heap.empty [] (by kernel_rfl) rfl .nil ?_
  refine Wl.known [(0, (.str (s))), (2, (.int .i64 0)), (9, (.bool false))] (by have e := decide_eq_false (show ¬ (s = []) from (by with_reducible assumption)); rw [e] <;> rfl) ?_
  refine Wl.batch (b := (base 33 80)) 3 5 [0, 2, 9, 11] [(0, (.str (s))), (2, (.int .i64 0)), (9, (.bool false)), (11, (.int .u8 (byteAt s 0)))] Heap.empty [(((0 : Int) ≤ (0 : Int)) ∧ ((0 : Int) < (↑(List.length s) : Int)))] (by kernel_rfl) rfl (.cons (by omega) .nil) ?_
  refine Wl.callP (b := (base 33 80)) (h1 := Heap.empty) (h2 := Heap.empty) (v := (.int .i64 0)) (d := (some 12)) 5 [0, 2, 9, 12] [(0, (.str (s))), (2, (.int .i64 0)), (9, (.bool false)), (12, (.int .i64 0))] (@hc) (by kernel_rfl) (by kernel_rfl) (by kernel_rfl) ?_
  refine Wl.batch (b := (base 33 80)) 6 11 [0, 2, 15, 17] [(0, (.str (s))), (2, (.int .i64 0)), (15, (.bool false)), (17, (.int .u8 (byteAt s 0)))] Heap.empty [(((0 : Int) ≤ (0 : Int)) ∧ ((0 : Int) < (↑(List.length s) : Int)))] (by kernel_rfl) rfl (.cons (by omega) .nil) ?_
  refine Wl.callP (b := (base 33 80)) (h1 := Heap.empty) (h2 := Heap.empty) (v := (.int .i64 0)) (d := (some 18)) 11 [0, 2, 15, 18] [(0, (.str (s))), (2, (.int .i64 0)), (15, (.bool false)), (18, (.int .i64 0))] (@hc) (by kernel_rfl) (by kernel_rfl) (by kernel_rfl) ?_
  refine Wl.batch (b := (base 33 80)) 12 16 [0, 2, 22] [(0, (.str (s))), (2, (.int .i64 0)), (22, (.bool (decide ((↑(List.length s) : Int) ≤ 0))))] Heap.empty [] (by kernel_rfl) rfl .nil ?_
  refine Wl.done 16 rfl ?_
  refine Wc.condP (p := (↑(List.length s) : Int) ≤ 0) (by kernel_rfl) (by kernel_rfl) (fun c2 => absurd c2 (show ¬ ((↑(List.length s) : Int) ≤ 0) from (by omega))) (fun c2 => ?_)
  refine Wc.skip ?_
  refine Wc.seq ?_
  refine Wc.enter ?_
  refine Wl.batch (b := (base 33 80)) 0 2 [0, 2, 22, 24] [(0, (.str (s))), (2, (.int .i64 0)), (22, (.bool (decide ((↑(List.length s) : Int) ≤ 0)))), (24, (.int .u8 (byteAt s 0)))] Heap.empty [(((0 : Int) ≤ (0 : Int)) ∧ ((0 : Int) < (↑(List.length s) : Int)))] (by kernel_rfl) rfl (.cons (by omega) .nil) ?_
  refine Wl.callP (b := (base 33 80)) (h1 := Heap.empty) (h2 := Heap.empty) (v := (.int .i64 0)) (d := (some 25)) 2 [0, 2, 22, 25] [(0, (.str (s))), (2, (.int .i64 0)), (22, (.bool (decide ((↑(List.length s) : Int) ≤ 0)))), (25, (.int .i64 0))] (@hc) (by kernel_rfl) (by kernel_rfl) (by kernel_rfl) ?_
  refine Wl.batch (b := (base 33 80)) 3 4 [0, 2, 3, 22] [(0, (.str (s))), (2, (.int .i64 0)), (3, (.int .i64 0)), (22, (.bool (decide ((↑(List.length s) : Int) ≤ 0))))] Heap.empty [] (by kernel_rfl) rfl .nil ?_
  refine Wl.done 4 rfl ?_
  refine Wc.seq ?_
  refine Wc.whole (b := (base 33 80)) [0, 2, 3, 4, 22] [(0, (.str (s))), (2, (.int .i64 0)), (3, (.int .i64 0)), (4, (.int .i64 (byteAt s 0))), (22, (.bool (decide ((↑(List.length s) : Int) ≤ 0))))] Heap.empty [(((0 : Int) ≤ (0 : Int)) ∧ ((0 : Int) < (↑(List.length s) : Int))), (((-9223372036854775808 : Int) ≤ byteAt s (0 : Int)) ∧ (byteAt s (0 : Int) ≤ (9223372036854775807 : Int)))] (by kernel_rfl) (.cons (by omega) (.cons (by omega) .nil)) ?_
  refine Wc.seq ?_
  refine Wc.seq ?_
  refine Wc.whole (b := (base 33 80)) [0, 2, 3, 4, 22, 30] [(0, (.str (s))), (2, (.int .i64 0)), (3, (.int .i64 0)), (4, (.int .i64 (byteAt s 0))), (22, (.bool (decide ((↑(List.length s) : Int) ≤ 0)))), (30, (.bool false))] Heap.empty [] (by kernel_rfl) .nil ?_
  refine Wc.condF (by kernel_rfl) (by kernel_rfl) ?_
  refine Wc.skip ?_
  refine Wc.seq ?_
  refine Wc.seq ?_
  refine Wc.whole (b := (base 33 80)) [0, 2, 3, 4, 5, 22, 30] [(0, (.str (s))), (2, (.int .i64 0)), (3, (.int .i64 0)), (4, (.int .i64 (byteAt s 0))), (5, (.int .i64 1)), (22, (.bool (decide ((↑(List.length s) : Int) ≤ 0)))), (30, (.bool false))] Heap.empty [] (by kernel_rfl) .nil ?_
  refine Wc.block ?_
  refine Wc.unroll ?_
  refine Wc.seq ?_
  refine Wc.seq ?_
  refine Wc.whole (b := (base 33 80)) [0, 2, 3, 4, 5, 22, 30, 38] [(0, (.str (s))), (2, (.int .i64 0)), (3, (.int .i64 0)), (4, (.int .i64 (byteAt s 0))), (5, (.int .i64 1)), (22, (.bool (decide ((↑(List.length s) : Int) ≤ 0)))), (30, (.bool false)), (38, (.bool false))] Heap.empty [] (by kernel_rfl) .nil ?_
  refine Wc.condF (by kernel_rfl) (by kernel_rfl) ?_
  refine Wc.exit ?_
  refine blockX.here ?_
  refine Wc.seq ?_
  refine Wc.whole (b := (base 33 80)) [0, 2, 3, 4, 5, 6, 22, 30, 38] [(0, (.str (s))), (2, (.int .i64 0)), (3, (.int .i64 0)), (4, (.int .i64 (byteAt s 0))), (5, (.int .i64 1)), (6, (.int .i64 0)), (22, (.bool (decide ((↑(List.length s) : Int) ≤ 0)))), (30, (.bool false)), (38, (.bool false))] Heap.empty [(((0 : Int) ≤ (0 : Int)) ∧ ((0 : Int) < (4 : Int)))] (by kernel_rfl) (.cons (by omega) .nil) ?_
  refine Wc.seq ?_
  refine Wc.seq ?_
  refine Wc.enter ?_
  refine Wl.batch (b := (base 33 80)) 0 7 [0, 2, 3, 4, 5, 6, 22, 30, 38, 66, 69] [(0, (.str (s))), (2, (.int .i64 0)), (3, (.int .i64 0)), (4, (.int .i64 (byteAt s 0))), (5, (.int .i64 1)), (6, (.int .i64 0)), (22, (.bool (decide ((↑(List.length s) : Int) ≤ 0)))), (30, (.bool false)), (38, (.bool false)), (66, (.bool false)), (69, (.bool (decide (55296 ≤ byteAt s 0))))] Heap.empty [] (by kernel_rfl) rfl .nil ?_
  refine Wl.known [(0, (.str (s))), (2, (.int .i64 0)), (3, (.int .i64 0)), (4, (.int .i64 (byteAt s 0))), (5, (.int .i64 1)), (6, (.int .i64 0)), (22, (.bool (decide ((↑(List.length s) : Int) ≤ 0)))), (30, (.bool false)), (38, (.bool false)), (66, (.bool false)), (69, (.bool false))] (by have e := decide_eq_false (show ¬ (55296 ≤ byteAt s 0) from (by omega)); rw [e] <;> rfl) ?_
  refine Wl.batch (b := (base 33 80)) 7 15 [0, 2, 3, 4, 5, 6, 22, 30, 38, 77] [(0, (.str (s))), (2, (.int .i64 0)), (3, (.int .i64 0)), (4, (.int .i64 (byteAt s 0))), (5, (.int .i64 1)), (6, (.int .i64 0)), (22, (.bool (decide ((↑(List.length s) : Int) ≤ 0)))), (30, (.bool false)), (38, (.bool false)), (77, (.bool (decide (1114111 < byteAt s 0))))] Heap.empty [] (by kernel_rfl) rfl .nil ?_
  refine Wl.done 15 rfl ?_
  refine Wc.condP (p := 1114111 < byteAt s 0) (by kernel_rfl) (by kernel_rfl) (fun c4 => absurd c4 (show ¬ (1114111 < byteAt s 0) from (by omega))) (fun c4 => ?_)
  refine Wc.skip ?_
  refine Wc.seq ?_
  refine Wc.whole (b := (base 33 80)) [0, 2, 3, 4, 5, 6, 22, 30, 38, 77] [(0, (.str (s))), (2, (.int .i64 1)), (3, (.int .i64 0)), (4, (.int .i64 (byteAt s 0))), (5, (.int .i64 1)), (6, (.int .i64 0)), (22, (.bool (decide ((↑(List.length s) : Int) ≤ 0)))), (30, (.bool false)), (38, (.bool false)), (77, (.bool (decide (1114111 < byteAt s 0))))] Heap.empty [(((-9223372036854775808 : Int) ≤ (1 : Int)) ∧ ((1 : Int) ≤ (9223372036854775807 : Int)))] (by kernel_rfl) (.cons (by omega) .nil) ?_
  refine Wc.ret ?_
  refine retX.mk (.int .i64 1) ⟨rfl, rfl⟩ (by kernel_rfl) ?_
  kernel_rfl

end Go.AM
