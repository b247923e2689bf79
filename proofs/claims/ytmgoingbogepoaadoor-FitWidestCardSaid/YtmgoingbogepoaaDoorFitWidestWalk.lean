/-
  FitWidest, WALKED over any arguments: it comes to true. No condition.
-/
import Derived.Test.YtmgoingbogepoaaDoorUtfWalks
namespace Go.AM
open Go.Proofs
set_option maxRecDepth 100000
set_option maxHeartbeats 4000000

theorem aggS : aggOf Tryd.prog 9 = some false := by kernel_rfl
theorem sizS : size Tryd.prog 9 = 1 := by kernel_rfl
theorem len_lines (s : List UInt8) : List.len ((linesOf s).map V.str) = (linesOf s).length := by rw [List.len_eq, List.length_map]
theorem ldL (s : List UInt8) (k : Nat) (h1 : k < (linesOf s).length) : load Tryd.prog (hp [.row 0 9 1 0 none ((linesOf s).map V.str)]) 9 (.ptr 0 0 ((0 + k) * 1)) = some (.str ((linesOf s).getD k [])) :=
  load_at (f := V.str) (fun _ => rfl) (k := k) [] aggS sizS rfl (by omega) (by omega)
theorem cBlanks (n : Nat) (hn : n ≤ 1000) : Cp Tryd.prog EU 8 [.int .i64 (n : Int)] (.str (blanksOf n)) := by
  refine Cp.body (fn := Tryd.f8) Tryd.func8 rfl (by kernel_rfl) ?_
  refine Wc.seq ?_
  refine Wc.whole (b := (base 8 13)) [0, 2] [(0, (.int .i64 ((↑n : Int)))), (2, (.str []))] Heap.empty [] (by kernel_rfl) .nil ?_
  refine Wc.seq ?_
  refine Wc.whole (b := (base 8 13)) [0, 2, 3] [(0, (.int .i64 ((↑n : Int)))), (2, (.str [])), (3, (.str []))] Heap.empty [] (by kernel_rfl) .nil ?_
  refine Wc.seq ?_
  refine Wc.seq ?_
  refine Wc.whole (b := (base 8 13)) [0, 2, 3, 4] [(0, (.int .i64 ((↑n : Int)))), (2, (.str [])), (3, (.str [])), (4, (.int .i64 0))] Heap.empty [] (by kernel_rfl) .nil ?_
  refine Wc.block ?_
  refine Wc.loop (α := Nat) (fun i => (base 8 13).on [(0, (.int .i64 (n : Int))), (2, (.str [])), (3, (.str (blanksOf i))), (4, (.int .i64 (i : Int)))]) (fun _ => Heap.empty) (fun i => i ≤ n) (fun i => n - i) 0 (Le.on [0, 2, 3, 4] (by kernel_rfl)) rfl (Nat.zero_le _) ?_
  intro i hi
  have hb := blanksOf_length i
  refine Wc.seq ?_
  refine Wc.seq ?_
  refine Wc.whole (b := (base 8 13)) [0, 2, 3, 4, 7] [(0, (.int .i64 ((↑n : Int)))), (2, (.str [])), (3, (.str (blanksOf i))), (4, (.int .i64 ((↑i : Int)))), (7, (.bool (decide ((↑i : Int) < (↑n : Int)))))] Heap.empty [] (by kernel_rfl) .nil ?_
  refine Wc.condP (p := (↑i : Int) < (↑n : Int)) (by kernel_rfl) (by kernel_rfl) (fun c1 => ?_) (fun c1 => ?_)
  · refine Wc.skip ?_
    refine Wc.seq ?_
    refine Wc.block ?_
    refine Wc.whole (b := (base 8 13)) [0, 2, 3, 4, 7] [(0, (.int .i64 ((↑n : Int)))), (2, (.str [])), (3, (.str (blanksOf i ++ [32]))), (4, (.int .i64 ((↑i : Int)))), (7, (.bool (decide ((↑i : Int) < (↑n : Int)))))] Heap.empty [(List.length (blanksOf i) + (1 : Nat) ≤ (1099511627776 : Nat))] (by kernel_rfl) (.cons (by omega) .nil) ?_
    refine Wc.whole (b := (base 8 13)) [0, 2, 3, 4, 7] [(0, (.int .i64 ((↑n : Int)))), (2, (.str [])), (3, (.str (blanksOf i ++ [32]))), (4, (.int .i64 ((↑i : Int) + 1))), (7, (.bool (decide ((↑i : Int) < (↑n : Int)))))] Heap.empty [(((-9223372036854775808 : Int) ≤ (↑i : Int) + (1 : Int)) ∧ ((↑i : Int) + (1 : Int) ≤ (9223372036854775807 : Int)))] (by kernel_rfl) (.cons (by omega) .nil) ?_
    refine ⟨i + 1, ?_, rfl, by omega, by omega⟩
    rw [blanksOf_succ]
    exact Le.on [0, 2, 3, 4] (by kernel_rfl)
  · refine Wc.exit ?_
    refine blockX.here ?_
    refine Wc.seq ?_
    refine Wc.whole (b := (base 8 13)) [0, 2, 3, 4, 7] [(0, (.int .i64 ((↑n : Int)))), (2, (.str (blanksOf i))), (3, (.str (blanksOf i))), (4, (.int .i64 ((↑i : Int)))), (7, (.bool (decide ((↑i : Int) < (↑n : Int)))))] Heap.empty [] (by kernel_rfl) .nil ?_
    refine Wc.ret ?_
    refine retX.mk (.str (blanksOf i)) ⟨rfl, rfl⟩ (by kernel_rfl) ?_
    have e : i = n := by omega
    rw [e]; rfl
theorem cBlanksI (k : Int) (h0 : 0 ≤ k) (h1 : k ≤ 1000) : Cp Tryd.prog EU 8 [.int .i64 k] (.str (blanksOf k.toNat)) := by
  have := cBlanks k.toNat (by omega)
  rw [show ((k.toNat : Nat) : Int) = k by omega] at this
  exact this
theorem cWidest (s : List UInt8) (hs : s.length ≤ 1000) : Cp Tryd.prog EU 5 [.str s] (.int .i64 ((widestS s : Nat) : Int)) := by
  have hlen := len_lines s
  have hl := linesOf_length s
  have hc := List.count_le_length (a := (10 : UInt8)) (l := s)
  refine Cp.body (fn := Tryd.f5) Tryd.func5 rfl (by kernel_rfl) ?_
  refine Wc.seq ?_
  refine Wc.whole (b := (base 5 19)) [0, 2] [(0, (.str (s))), (2, (.int .i64 0))] Heap.empty [] (by kernel_rfl) .nil ?_
  refine Wc.seq ?_
  refine Wc.whole (b := (base 5 19)) [0, 2, 3] [(0, (.str (s))), (2, (.int .i64 0)), (3, (.int .i64 0))] Heap.empty [] (by kernel_rfl) .nil ?_
  refine Wc.seq ?_
  refine Wc.seq ?_
  refine Wc.enter ?_
  refine Wl.batch (b := (base 5 19)) 0 1 [0, 2, 3, 6] [(0, (.str (s))), (2, (.int .i64 0)), (3, (.int .i64 0)), (6, (.str (s)))] Heap.empty [] (by kernel_rfl) rfl .nil ?_
  refine Wl.callP (b := (base 5 19)) (h1 := Heap.empty) (h2 := (hp [.row 0 9 1 0 none (List.map V.str (linesOf s))])) (v := (.sl 0 0 0 (List.len (List.map V.str (linesOf s))) none)) (d := (some 7)) 1 [0, 2, 3, 7] [(0, (.str (s))), (2, (.int .i64 0)), (3, (.int .i64 0)), (7, (.sl 0 0 0 (List.len (List.map V.str (linesOf s))) none))] (@Go.AM.c13 (s) hs) (by kernel_rfl) (by kernel_rfl) (by kernel_rfl) ?_
  refine Wl.batch (b := (base 5 19)) 2 4 [0, 2, 3, 7, 8, 9] [(0, (.str (s))), (2, (.int .i64 0)), (3, (.int .i64 0)), (7, (.sl 0 0 0 (List.len (List.map V.str (linesOf s))) none)), (8, (.int .i64 ((↑(List.len (List.map V.str (linesOf s))) : Int)))), (9, (.int .i64 0))] (hp [.row 0 9 1 0 none (List.map V.str (linesOf s))]) [] (by kernel_rfl) rfl .nil ?_
  refine Wl.done 4 rfl ?_
  refine Wc.block ?_
  refine Wc.loop (α := Nat) (fun k => (base 5 19).on [(2, (.int .i64 0)), (3, (.int .i64 ((widestTo (linesOf s) k : Nat) : Int))), (7, (.sl 0 0 0 (List.len (List.map V.str (linesOf s))) none)), (8, (.int .i64 ((↑(List.len (List.map V.str (linesOf s))) : Int)))), (9, (.int .i64 (k : Int)))]) (fun _ => hp [.row 0 9 1 0 none (List.map V.str (linesOf s))]) (fun k => k ≤ (linesOf s).length) (fun k => (linesOf s).length - k) 0 (Le.on [2, 3, 7, 8, 9] (by kernel_rfl)) rfl (Nat.zero_le _) ?_
  intro k hk
  have hll := line_le s k
  have hwl := widestTo_le s k
  have hww := wide_le ((linesOf s).getD k [])
  refine Wc.seq ?_
  refine Wc.whole (b := (base 5 19)) [2, 3, 7, 8, 9, 10] [(2, (.int .i64 0)), (3, (.int .i64 ((↑(widestTo (linesOf s) k) : Int)))), (7, (.sl 0 0 0 (List.len (List.map V.str (linesOf s))) none)), (8, (.int .i64 ((↑(List.len (List.map V.str (linesOf s))) : Int)))), (9, (.int .i64 ((↑k : Int)))), (10, (.bool (decide ((↑k : Int) < (↑(List.len (List.map V.str (linesOf s))) : Int)))))] (hp [.row 0 9 1 0 none (List.map V.str (linesOf s))]) [] (by kernel_rfl) .nil ?_
  refine Wc.seq ?_
  refine Wc.condP (p := (↑k : Int) < (↑(List.len (List.map V.str (linesOf s))) : Int)) (by kernel_rfl) (by kernel_rfl) (fun c1 => ?_) (fun c1 => ?_)
  · refine Wc.skip ?_
    refine Wc.seq ?_
    refine Wc.block ?_
    refine Wc.seq ?_
    refine Wc.enter ?_
    refine Wl.batch (b := (base 5 19)) 0 1 [2, 3, 7, 8, 9, 10, 11] [(2, (.int .i64 0)), (3, (.int .i64 ((↑(widestTo (linesOf s) k) : Int)))), (7, (.sl 0 0 0 (List.len (List.map V.str (linesOf s))) none)), (8, (.int .i64 ((↑(List.len (List.map V.str (linesOf s))) : Int)))), (9, (.int .i64 ((↑k : Int)))), (10, (.bool (decide ((↑k : Int) < (↑(List.len (List.map V.str (linesOf s))) : Int))))), (11, (.ptr 0 0 ((0 + k) * 1)))] (hp [.row 0 9 1 0 none (List.map V.str (linesOf s))]) [(((0 : Int) ≤ (↑k : Int)) ∧ ((↑k : Int) < (↑(List.len (List.map V.str (linesOf s))) : Int)))] (by kernel_rfl) rfl (.cons (by omega) .nil) ?_
    refine Wl.load (b := (base 5 19)) (t := 9) (a := (.ptr 0 0 ((0 + k) * 1))) (d := (some 12)) 1 (.str (List.getD (linesOf s) k [])) [2, 3, 7, 8, 9, 10, 12] [(2, (.int .i64 0)), (3, (.int .i64 ((↑(widestTo (linesOf s) k) : Int)))), (7, (.sl 0 0 0 (List.len (List.map V.str (linesOf s))) none)), (8, (.int .i64 ((↑(List.len (List.map V.str (linesOf s))) : Int)))), (9, (.int .i64 ((↑k : Int)))), (10, (.bool (decide ((↑k : Int) < (↑(List.len (List.map V.str (linesOf s))) : Int))))), (12, (.str (List.getD (linesOf s) k [])))] (by kernel_rfl) (@Go.AM.ldL (s) (k) (by omega)) (by kernel_rfl) ?_
    refine Wl.batch (b := (base 5 19)) 2 3 [2, 3, 5, 7, 8, 9, 10] [(2, (.int .i64 0)), (3, (.int .i64 ((↑(widestTo (linesOf s) k) : Int)))), (5, (.str (List.getD (linesOf s) k []))), (7, (.sl 0 0 0 (List.len (List.map V.str (linesOf s))) none)), (8, (.int .i64 ((↑(List.len (List.map V.str (linesOf s))) : Int)))), (9, (.int .i64 ((↑k : Int)))), (10, (.bool (decide ((↑k : Int) < (↑(List.len (List.map V.str (linesOf s))) : Int)))))] (hp [.row 0 9 1 0 none (List.map V.str (linesOf s))]) [] (by kernel_rfl) rfl .nil ?_
    refine Wl.done 3 rfl ?_
    refine Wc.enter ?_
    refine Wl.batch (b := (base 5 19)) 0 2 [2, 3, 5, 7, 8, 9, 10, 13, 14] [(2, (.int .i64 0)), (3, (.int .i64 ((↑(widestTo (linesOf s) k) : Int)))), (5, (.str (List.getD (linesOf s) k []))), (7, (.sl 0 0 0 (List.len (List.map V.str (linesOf s))) none)), (8, (.int .i64 ((↑(List.len (List.map V.str (linesOf s))) : Int)))), (9, (.int .i64 ((↑k : Int)))), (10, (.bool (decide ((↑k : Int) < (↑(List.len (List.map V.str (linesOf s))) : Int))))), (13, (.int .i64 ((↑(widestTo (linesOf s) k) : Int)))), (14, (.str (List.getD (linesOf s) k [])))] (hp [.row 0 9 1 0 none (List.map V.str (linesOf s))]) [] (by kernel_rfl) rfl .nil ?_
    refine Wl.callP (b := (base 5 19)) (h1 := (hp [.row 0 9 1 0 none (List.map V.str (linesOf s))])) (h2 := (hp [.row 0 9 1 0 none (List.map V.str (linesOf s))])) (v := (.int .i64 ((↑(wide (List.getD (linesOf s) k [])) : Int)))) (d := (some 15)) 2 [2, 3, 5, 7, 8, 9, 10, 13, 15] [(2, (.int .i64 0)), (3, (.int .i64 ((↑(widestTo (linesOf s) k) : Int)))), (5, (.str (List.getD (linesOf s) k []))), (7, (.sl 0 0 0 (List.len (List.map V.str (linesOf s))) none)), (8, (.int .i64 ((↑(List.len (List.map V.str (linesOf s))) : Int)))), (9, (.int .i64 ((↑k : Int)))), (10, (.bool (decide ((↑k : Int) < (↑(List.len (List.map V.str (linesOf s))) : Int))))), (13, (.int .i64 ((↑(widestTo (linesOf s) k) : Int)))), (15, (.int .i64 ((↑(wide (List.getD (linesOf s) k [])) : Int))))] (@Go.AM.c16 (List.getD (linesOf s) k []) (by omega)) (by kernel_rfl) (by kernel_rfl) (by kernel_rfl) ?_
    refine Wl.batch (b := (base 5 19)) 3 5 [2, 3, 5, 7, 8, 9, 10] [(2, (.int .i64 0)), (3, (.int .i64 (max (↑(widestTo (linesOf s) k) : Int) (↑(wide (List.getD (linesOf s) k [])) : Int)))), (5, (.str (List.getD (linesOf s) k []))), (7, (.sl 0 0 0 (List.len (List.map V.str (linesOf s))) none)), (8, (.int .i64 ((↑(List.len (List.map V.str (linesOf s))) : Int)))), (9, (.int .i64 ((↑k : Int)))), (10, (.bool (decide ((↑k : Int) < (↑(List.len (List.map V.str (linesOf s))) : Int)))))] (hp [.row 0 9 1 0 none (List.map V.str (linesOf s))]) [] (by kernel_rfl) rfl .nil ?_
    refine Wl.done 5 rfl ?_
    refine Wc.whole (b := (base 5 19)) [2, 3, 5, 7, 8, 9, 10] [(2, (.int .i64 0)), (3, (.int .i64 (max (↑(widestTo (linesOf s) k) : Int) (↑(wide (List.getD (linesOf s) k [])) : Int)))), (5, (.str (List.getD (linesOf s) k []))), (7, (.sl 0 0 0 (List.len (List.map V.str (linesOf s))) none)), (8, (.int .i64 ((↑(List.len (List.map V.str (linesOf s))) : Int)))), (9, (.int .i64 ((↑k : Int) + 1))), (10, (.bool (decide ((↑k : Int) < (↑(List.len (List.map V.str (linesOf s))) : Int)))))] (hp [.row 0 9 1 0 none (List.map V.str (linesOf s))]) [(((-9223372036854775808 : Int) ≤ (↑k : Int) + (1 : Int)) ∧ ((↑k : Int) + (1 : Int) ≤ (9223372036854775807 : Int)))] (by kernel_rfl) (.cons (by omega) .nil) ?_
    refine ⟨k + 1, Le.on' [2, 3, 7, 8, 9] [(2, .int .i64 0), (3, .int .i64 (max ((widestTo (linesOf s) k : Nat) : Int) ((wide ((linesOf s).getD k []) : Nat) : Int))), (7, .sl 0 0 0 (List.len (List.map V.str (linesOf s))) none), (8, .int .i64 ((List.len (List.map V.str (linesOf s)) : Nat) : Int)), (9, .int .i64 ((k : Int) + 1))] (by kernel_rfl) ?_, rfl, by omega, by omega⟩
    rw [show ((widestTo (linesOf s) (k + 1) : Nat) : Int) = max ((widestTo (linesOf s) k : Nat) : Int) ((wide ((linesOf s).getD k []) : Nat) : Int) by simp only [widestTo]; omega]
    rfl
  · refine Wc.exit ?_
    refine blockX.here ?_
    refine Wc.seq ?_
    refine Wc.whole (b := (base 5 19)) [2, 3, 7, 8, 9, 10] [(2, (.int .i64 ((↑(widestTo (linesOf s) k) : Int)))), (3, (.int .i64 ((↑(widestTo (linesOf s) k) : Int)))), (7, (.sl 0 0 0 (List.len (List.map V.str (linesOf s))) none)), (8, (.int .i64 ((↑(List.len (List.map V.str (linesOf s))) : Int)))), (9, (.int .i64 ((↑k : Int)))), (10, (.bool (decide ((↑k : Int) < (↑(List.len (List.map V.str (linesOf s))) : Int)))))] (hp [.row 0 9 1 0 none (List.map V.str (linesOf s))]) [] (by kernel_rfl) .nil ?_
    refine Wc.ret ?_
    refine retX.mk (.int .i64 ((↑(widestTo (linesOf s) k) : Int))) ⟨rfl, rfl⟩ (by kernel_rfl) ?_
    refine congrArg (fun x => some (V.int .i64 x)) ?_
    have e : k = (linesOf s).length := by omega
    rw [e]; rfl
theorem fitWidest_walk (s : List UInt8) (hs : s.length ≤ 9223372036854775807) (N : Nat) (hN : N < 256) : ∃ v h', Ev Tryd.prog EU (.call 3 [.str s, .int .u8 (N : Int)] Heap.empty) (.ret v h') ∧ v = .bool true := by
  refine Ev.body (fn := Tryd.f3) Tryd.func3 rfl (by kernel_rfl) ?_
  refine Wc.seq ?_
  refine Wc.whole (b := (base 3 50)) [0, 1, 4] [(0, (.str (s))), (1, (.int .u8 ((↑N : Int)))), (4, (.bool false))] Heap.empty [] (by kernel_rfl) .nil ?_
  refine Wc.seq ?_
  refine Wc.seq ?_
  refine Wc.whole (b := (base 3 50)) [0, 1, 4, 11] [(0, (.str (s))), (1, (.int .u8 ((↑N : Int)))), (4, (.bool false)), (11, (.bool (decide (200 < (↑(List.length s) : Int)))))] Heap.empty [] (by kernel_rfl) .nil ?_
  refine Wc.condP (p := 200 < (↑(List.length s) : Int)) (by kernel_rfl) (by kernel_rfl) (fun c1 => ?_) (fun c1 => ?_)
  · refine Wc.seq ?_
    refine Wc.whole (b := (base 3 50)) [0, 1, 4, 11] [(0, (.str (s))), (1, (.int .u8 ((↑N : Int)))), (4, (.bool true)), (11, (.bool (decide (200 < (↑(List.length s) : Int)))))] Heap.empty [] (by kernel_rfl) .nil ?_
    refine Wc.ret ?_
    refine retX.mk (.bool true) ⟨rfl, rfl⟩ (by kernel_rfl) ?_
    kernel_rfl
  · refine Wc.skip ?_
    refine Wc.seq ?_
    refine Wc.enter ?_
    refine Wl.batch (b := (base 3 50)) 0 1 [0, 1, 4, 11, 13] [(0, (.str (s))), (1, (.int .u8 ((↑N : Int)))), (4, (.bool false)), (11, (.bool (decide (200 < (↑(List.length s) : Int))))), (13, (.str (s)))] Heap.empty [] (by kernel_rfl) rfl .nil ?_
    refine Wl.callP (b := (base 3 50)) (h1 := Heap.empty) (h2 := Heap.empty) (v := (.int .i64 ((↑(widestS s) : Int)))) (d := (some 14)) 1 [0, 1, 4, 11, 14] [(0, (.str (s))), (1, (.int .u8 ((↑N : Int)))), (4, (.bool false)), (11, (.bool (decide (200 < (↑(List.length s) : Int))))), (14, (.int .i64 ((↑(widestS s) : Int))))] (@Go.AM.cWidest (s) (by omega)) (by kernel_rfl) (by kernel_rfl) (by kernel_rfl) ?_
    refine Wl.batch (b := (base 3 50)) 2 3 [0, 1, 4, 5, 11] [(0, (.str (s))), (1, (.int .u8 ((↑N : Int)))), (4, (.bool false)), (5, (.int .i64 ((↑(widestS s) : Int)))), (11, (.bool (decide (200 < (↑(List.length s) : Int)))))] Heap.empty [] (by kernel_rfl) rfl .nil ?_
    refine Wl.done 3 rfl ?_
    refine Wc.seq ?_
    refine Wc.enter ?_
    refine Wl.batch (b := (base 3 50)) 0 1 [0, 1, 4, 5, 11, 15] [(0, (.str (s))), (1, (.int .u8 ((↑N : Int)))), (4, (.bool false)), (5, (.int .i64 ((↑(widestS s) : Int)))), (11, (.bool (decide (200 < (↑(List.length s) : Int))))), (15, (.str (s)))] Heap.empty [] (by kernel_rfl) rfl .nil ?_
    refine Wl.callP (b := (base 3 50)) (h1 := Heap.empty) (h2 := (hp [.row 0 9 1 0 none (List.map V.str (linesOf s))])) (v := (.sl 0 0 0 (List.len (List.map V.str (linesOf s))) none)) (d := (some 16)) 1 [0, 1, 4, 5, 11, 16] [(0, (.str (s))), (1, (.int .u8 ((↑N : Int)))), (4, (.bool false)), (5, (.int .i64 ((↑(widestS s) : Int)))), (11, (.bool (decide (200 < (↑(List.length s) : Int))))), (16, (.sl 0 0 0 (List.len (List.map V.str (linesOf s))) none))] (@Go.AM.c25 (s) (by omega)) (by kernel_rfl) (by kernel_rfl) (by kernel_rfl) ?_
    refine Wl.batch (b := (base 3 50)) 2 3 [0, 1, 4, 5, 6, 11] [(0, (.str (s))), (1, (.int .u8 ((↑N : Int)))), (4, (.bool false)), (5, (.int .i64 ((↑(widestS s) : Int)))), (6, (.sl 0 0 0 (List.len (List.map V.str (linesOf s))) none)), (11, (.bool (decide (200 < (↑(List.length s) : Int)))))] (hp [.row 0 9 1 0 none (List.map V.str (linesOf s))]) [] (by kernel_rfl) rfl .nil ?_
    refine Wl.done 3 rfl ?_
    refine Wc.seq ?_
    refine Wc.seq ?_
    refine Wc.whole (b := (base 3 50)) [0, 1, 4, 5, 6, 7, 11] [(0, (.str (s))), (1, (.int .u8 ((↑N : Int)))), (4, (.bool false)), (5, (.int .i64 ((↑(widestS s) : Int)))), (6, (.sl 0 0 0 (List.len (List.map V.str (linesOf s))) none)), (7, (.int .i64 0)), (11, (.bool (decide (200 < (↑(List.length s) : Int)))))] (hp [.row 0 9 1 0 none (List.map V.str (linesOf s))]) [] (by kernel_rfl) .nil ?_
    refine Wc.block ?_
    have hlen := len_lines s
    have hcnt := linesOf_length s
    have hcl := List.count_le_length (a := (10 : UInt8)) (l := s)
    have hws := widestTo_le s (linesOf s).length
    refine Wc.loop (α := Nat) (fun i => (base 3 50).on [(0, (.str (s))), (1, (.int .u8 ((↑N : Int)))), (4, (.bool false)), (5, (.int .i64 ((↑(widestS s) : Int)))), (6, (.sl 0 0 0 (List.len (List.map V.str (linesOf s))) none)), (7, (.int .i64 (i : Int)))]) (fun _ => hp [.row 0 9 1 0 none (List.map V.str (linesOf s))]) (fun i => i ≤ (linesOf s).length) (fun i => (linesOf s).length - i) 0 (Le.on [0, 1, 4, 5, 6, 7] (by kernel_rfl)) rfl (Nat.zero_le _) ?_
    intro i hi
    have hll := line_le s i
    by_cases hi' : i < (linesOf s).length
    · have hw : wide ((linesOf s).getD i []) ≤ widestS s := widestTo_ge _ _ i hi'
      refine Wc.seq ?_
      refine Wc.seq ?_
      refine Wc.whole (b := (base 3 50)) [0, 1, 4, 5, 6, 7, 20] [(0, (.str (s))), (1, (.int .u8 ((↑N : Int)))), (4, (.bool false)), (5, (.int .i64 ((↑(widestS s) : Int)))), (6, (.sl 0 0 0 (List.len (List.map V.str (linesOf s))) none)), (7, (.int .i64 ((↑i : Int)))), (20, (.bool (decide ((↑i : Int) < (↑(List.len (List.map V.str (linesOf s))) : Int)))))] (hp [.row 0 9 1 0 none (List.map V.str (linesOf s))]) [] (by kernel_rfl) .nil ?_
      refine Wc.condP (p := (↑i : Int) < (↑(List.len (List.map V.str (linesOf s))) : Int)) (by kernel_rfl) (by kernel_rfl) (fun c1 => ?_) (fun c1 => absurd (show (↑i : Int) < (↑(List.len (List.map V.str (linesOf s))) : Int) from (by omega)) c1)
      refine Wc.skip ?_
      refine Wc.seq ?_
      refine Wc.block ?_
      refine Wc.seq ?_
      refine Wc.enter ?_
      refine Wl.batch (b := (base 3 50)) 0 3 [0, 1, 4, 5, 6, 7, 20, 25] [(0, (.str (s))), (1, (.int .u8 ((↑N : Int)))), (4, (.bool false)), (5, (.int .i64 ((↑(widestS s) : Int)))), (6, (.sl 0 0 0 (List.len (List.map V.str (linesOf s))) none)), (7, (.int .i64 ((↑i : Int)))), (20, (.bool (decide ((↑i : Int) < (↑(List.len (List.map V.str (linesOf s))) : Int))))), (25, (.ptr 0 0 ((0 + i) * 1)))] (hp [.row 0 9 1 0 none (List.map V.str (linesOf s))]) [(((0 : Int) ≤ (↑i : Int)) ∧ ((↑i : Int) < (↑(List.len (List.map V.str (linesOf s))) : Int)))] (by kernel_rfl) rfl (.cons (by omega) .nil) ?_
      refine Wl.load (b := (base 3 50)) (t := 9) (a := (.ptr 0 0 ((0 + i) * 1))) (d := (some 26)) 3 (.str (List.getD (linesOf s) i [])) [0, 1, 4, 5, 6, 7, 20, 26] [(0, (.str (s))), (1, (.int .u8 ((↑N : Int)))), (4, (.bool false)), (5, (.int .i64 ((↑(widestS s) : Int)))), (6, (.sl 0 0 0 (List.len (List.map V.str (linesOf s))) none)), (7, (.int .i64 ((↑i : Int)))), (20, (.bool (decide ((↑i : Int) < (↑(List.len (List.map V.str (linesOf s))) : Int))))), (26, (.str (List.getD (linesOf s) i [])))] (by kernel_rfl) (@Go.AM.ldL (s) (i) hi') (by kernel_rfl) ?_
      refine Wl.callP (b := (base 3 50)) (h1 := (hp [.row 0 9 1 0 none (List.map V.str (linesOf s))])) (h2 := (hp [.row 0 9 1 0 none (List.map V.str (linesOf s))])) (v := (.int .i64 ((↑(wide (List.getD (linesOf s) i [])) : Int)))) (d := (some 27)) 4 [0, 1, 4, 5, 6, 7, 20, 27] [(0, (.str (s))), (1, (.int .u8 ((↑N : Int)))), (4, (.bool false)), (5, (.int .i64 ((↑(widestS s) : Int)))), (6, (.sl 0 0 0 (List.len (List.map V.str (linesOf s))) none)), (7, (.int .i64 ((↑i : Int)))), (20, (.bool (decide ((↑i : Int) < (↑(List.len (List.map V.str (linesOf s))) : Int))))), (27, (.int .i64 ((↑(wide (List.getD (linesOf s) i [])) : Int))))] (@Go.AM.c23 (List.getD (linesOf s) i []) (by omega)) (by kernel_rfl) (by kernel_rfl) (by kernel_rfl) ?_
      refine Wl.batch (b := (base 3 50)) 5 7 [0, 1, 4, 5, 6, 7, 20, 29] [(0, (.str (s))), (1, (.int .u8 ((↑N : Int)))), (4, (.bool false)), (5, (.int .i64 ((↑(widestS s) : Int)))), (6, (.sl 0 0 0 (List.len (List.map V.str (linesOf s))) none)), (7, (.int .i64 ((↑i : Int)))), (20, (.bool (decide ((↑i : Int) < (↑(List.len (List.map V.str (linesOf s))) : Int))))), (29, (.bool (decide ((↑(widestS s) : Int) < (↑(wide (List.getD (linesOf s) i [])) : Int)))))] (hp [.row 0 9 1 0 none (List.map V.str (linesOf s))]) [] (by kernel_rfl) rfl .nil ?_
      refine Wl.done 7 rfl ?_
      refine Wc.condP (p := (↑(widestS s) : Int) < (↑(wide (List.getD (linesOf s) i [])) : Int)) (by kernel_rfl) (by kernel_rfl) (fun c2 => absurd c2 (show ¬ ((↑(widestS s) : Int) < (↑(wide (List.getD (linesOf s) i [])) : Int)) from (by omega))) (fun c2 => ?_)
      refine Wc.skip ?_
      refine Wc.whole (b := (base 3 50)) [0, 1, 4, 5, 6, 7, 20, 29] [(0, (.str (s))), (1, (.int .u8 ((↑N : Int)))), (4, (.bool false)), (5, (.int .i64 ((↑(widestS s) : Int)))), (6, (.sl 0 0 0 (List.len (List.map V.str (linesOf s))) none)), (7, (.int .i64 ((↑i : Int) + 1))), (20, (.bool (decide ((↑i : Int) < (↑(List.len (List.map V.str (linesOf s))) : Int))))), (29, (.bool (decide ((↑(widestS s) : Int) < (↑(wide (List.getD (linesOf s) i [])) : Int)))))] (hp [.row 0 9 1 0 none (List.map V.str (linesOf s))]) [(((-9223372036854775808 : Int) ≤ (↑i : Int) + (1 : Int)) ∧ ((↑i : Int) + (1 : Int) ≤ (9223372036854775807 : Int)))] (by kernel_rfl) (.cons (by omega) .nil) ?_
      exact ⟨i + 1, Le.on [0, 1, 4, 5, 6, 7] (by kernel_rfl), rfl, hi', by omega⟩
    · have hbl := blanksOf_length ((N : Int) % 50).toNat
      have hmore : ((widestS (s ++ [10] ++ blanksOf ((N : Int) % 50).toNat) : Nat) : Int) = max ((widestS s : Nat) : Int) ((N : Int) % 50) := by
        rw [widest_more]; omega
      have hnil : ((widestS [] : Nat) : Int) = 0 := by rw [widest_nil]; rfl
      refine Wc.seq ?_
      refine Wc.seq ?_
      refine Wc.whole (b := (base 3 50)) [0, 1, 4, 5, 6, 7, 20] [(0, (.str (s))), (1, (.int .u8 ((↑N : Int)))), (4, (.bool false)), (5, (.int .i64 ((↑(widestS s) : Int)))), (6, (.sl 0 0 0 (List.len (List.map V.str (linesOf s))) none)), (7, (.int .i64 ((↑i : Int)))), (20, (.bool (decide ((↑i : Int) < (↑(List.len (List.map V.str (linesOf s))) : Int)))))] (hp [.row 0 9 1 0 none (List.map V.str (linesOf s))]) [] (by kernel_rfl) .nil ?_
      refine Wc.condP (p := (↑i : Int) < (↑(List.len (List.map V.str (linesOf s))) : Int)) (by kernel_rfl) (by kernel_rfl) (fun c1 => absurd c1 (show ¬ ((↑i : Int) < (↑(List.len (List.map V.str (linesOf s))) : Int)) from (by omega))) (fun c1 => ?_)
      refine Wc.exit ?_
      refine blockX.here ?_
      refine Wc.seq ?_
      refine Wc.whole (b := (base 3 50)) [0, 1, 4, 5, 6, 7, 8, 20] [(0, (.str (s))), (1, (.int .u8 ((↑N : Int)))), (4, (.bool false)), (5, (.int .i64 ((↑(widestS s) : Int)))), (6, (.sl 0 0 0 (List.len (List.map V.str (linesOf s))) none)), (7, (.int .i64 ((↑i : Int)))), (8, (.int .i64 ((↑N : Int) % 50))), (20, (.bool (decide ((↑i : Int) < (↑(List.len (List.map V.str (linesOf s))) : Int)))))] (hp [.row 0 9 1 0 none (List.map V.str (linesOf s))]) [(((0 : Int) ≤ (↑N : Int)) ∧ ((0 : Int) < (50 : Int))), (((-9223372036854775808 : Int) ≤ (↑N : Int) % (50 : Int)) ∧ ((↑N : Int) % (50 : Int) ≤ (9223372036854775807 : Int)))] (by kernel_rfl) (.cons (by omega) (.cons (by omega) .nil)) ?_
      refine Wc.seq ?_
      refine Wc.enter ?_
      refine Wl.batch (b := (base 3 50)) 0 5 [0, 1, 4, 5, 6, 7, 8, 20, 34, 36, 37] [(0, (.str (s))), (1, (.int .u8 ((↑N : Int)))), (4, (.bool false)), (5, (.int .i64 ((↑(widestS s) : Int)))), (6, (.sl 0 0 0 (List.len (List.map V.str (linesOf s))) none)), (7, (.int .i64 ((↑i : Int)))), (8, (.int .i64 ((↑N : Int) % 50))), (20, (.bool (decide ((↑i : Int) < (↑(List.len (List.map V.str (linesOf s))) : Int))))), (34, (.bool true)), (36, (.str (s ++ [10]))), (37, (.int .i64 ((↑N : Int) % 50)))] (hp [.row 0 9 1 0 none (List.map V.str (linesOf s))]) [(List.length s + (1 : Nat) ≤ (1099511627776 : Nat))] (by kernel_rfl) rfl (.cons (by omega) .nil) ?_
      refine Wl.callP (b := (base 3 50)) (h1 := (hp [.row 0 9 1 0 none (List.map V.str (linesOf s))])) (h2 := (hp [.row 0 9 1 0 none (List.map V.str (linesOf s))])) (v := (.str (blanksOf (Int.toNat ((↑N : Int) % 50))))) (d := (some 38)) 5 [0, 1, 4, 5, 6, 7, 8, 20, 34, 36, 38] [(0, (.str (s))), (1, (.int .u8 ((↑N : Int)))), (4, (.bool false)), (5, (.int .i64 ((↑(widestS s) : Int)))), (6, (.sl 0 0 0 (List.len (List.map V.str (linesOf s))) none)), (7, (.int .i64 ((↑i : Int)))), (8, (.int .i64 ((↑N : Int) % 50))), (20, (.bool (decide ((↑i : Int) < (↑(List.len (List.map V.str (linesOf s))) : Int))))), (34, (.bool true)), (36, (.str (s ++ [10]))), (38, (.str (blanksOf (Int.toNat ((↑N : Int) % 50)))))] (@Go.AM.cBlanksI ((↑N : Int) % 50) (by omega) (by omega)) (by kernel_rfl) (by kernel_rfl) (by kernel_rfl) ?_
      refine Wl.batch (b := (base 3 50)) 6 7 [0, 1, 4, 5, 6, 7, 8, 20, 34, 39] [(0, (.str (s))), (1, (.int .u8 ((↑N : Int)))), (4, (.bool false)), (5, (.int .i64 ((↑(widestS s) : Int)))), (6, (.sl 0 0 0 (List.len (List.map V.str (linesOf s))) none)), (7, (.int .i64 ((↑i : Int)))), (8, (.int .i64 ((↑N : Int) % 50))), (20, (.bool (decide ((↑i : Int) < (↑(List.len (List.map V.str (linesOf s))) : Int))))), (34, (.bool true)), (39, (.str (s ++ [10] ++ blanksOf (Int.toNat ((↑N : Int) % 50)))))] (hp [.row 0 9 1 0 none (List.map V.str (linesOf s))]) [(List.length (s ++ [(10 : UInt8)]) + List.length (blanksOf (Int.toNat ((↑N : Int) % (50 : Int)))) ≤ (1099511627776 : Nat))] (by kernel_rfl) rfl (.cons (by (simp only [List.length_append, List.length_cons, List.length_nil]; omega)) .nil) ?_
      refine Wl.callP (b := (base 3 50)) (h1 := (hp [.row 0 9 1 0 none (List.map V.str (linesOf s))])) (h2 := (hp [.row 0 9 1 0 none (List.map V.str (linesOf s))])) (v := (.int .i64 ((↑(widestS (s ++ [10] ++ blanksOf (Int.toNat ((↑N : Int) % 50)))) : Int)))) (d := (some 40)) 7 [0, 1, 4, 5, 6, 7, 8, 20, 34, 40] [(0, (.str (s))), (1, (.int .u8 ((↑N : Int)))), (4, (.bool false)), (5, (.int .i64 ((↑(widestS s) : Int)))), (6, (.sl 0 0 0 (List.len (List.map V.str (linesOf s))) none)), (7, (.int .i64 ((↑i : Int)))), (8, (.int .i64 ((↑N : Int) % 50))), (20, (.bool (decide ((↑i : Int) < (↑(List.len (List.map V.str (linesOf s))) : Int))))), (34, (.bool true)), (40, (.int .i64 ((↑(widestS (s ++ [10] ++ blanksOf (Int.toNat ((↑N : Int) % 50)))) : Int))))] (@Go.AM.cWidest (s ++ [10] ++ blanksOf (Int.toNat ((↑N : Int) % 50))) (by (simp only [List.length_append, List.length_cons, List.length_nil]; omega))) (by kernel_rfl) (by kernel_rfl) (by kernel_rfl) ?_
      refine Wl.batch (b := (base 3 50)) 8 14 [0, 1, 4, 5, 6, 7, 8, 20, 46] [(0, (.str (s))), (1, (.int .u8 ((↑N : Int)))), (4, (.bool false)), (5, (.int .i64 ((↑(widestS s) : Int)))), (6, (.sl 0 0 0 (List.len (List.map V.str (linesOf s))) none)), (7, (.int .i64 ((↑i : Int)))), (8, (.int .i64 ((↑N : Int) % 50))), (20, (.bool (decide ((↑i : Int) < (↑(List.len (List.map V.str (linesOf s))) : Int))))), (46, (.bool (decide ((↑(widestS (s ++ [10] ++ blanksOf (Int.toNat ((↑N : Int) % 50)))) : Int) = max (↑(widestS s) : Int) ((↑N : Int) % 50)))))] (hp [.row 0 9 1 0 none (List.map V.str (linesOf s))]) [] (by kernel_rfl) rfl .nil ?_
      refine Wl.known [(0, (.str (s))), (1, (.int .u8 ((↑N : Int)))), (4, (.bool false)), (5, (.int .i64 ((↑(widestS s) : Int)))), (6, (.sl 0 0 0 (List.len (List.map V.str (linesOf s))) none)), (7, (.int .i64 ((↑i : Int)))), (8, (.int .i64 ((↑N : Int) % 50))), (20, (.bool (decide ((↑i : Int) < (↑(List.len (List.map V.str (linesOf s))) : Int))))), (46, (.bool true))] (by have e := decide_eq_true (show (↑(widestS (s ++ [10] ++ blanksOf (Int.toNat ((↑N : Int) % 50)))) : Int) = max (↑(widestS s) : Int) ((↑N : Int) % 50) from hmore); simp only [e] <;> rfl) ?_
      refine Wl.callP (b := (base 3 50)) (h1 := (hp [.row 0 9 1 0 none (List.map V.str (linesOf s))])) (h2 := (hp [.row 0 9 1 0 none (List.map V.str (linesOf s))])) (v := (.int .i64 0)) (d := (some 47)) 14 [0, 1, 4, 5, 6, 7, 8, 20, 46, 47] [(0, (.str (s))), (1, (.int .u8 ((↑N : Int)))), (4, (.bool false)), (5, (.int .i64 ((↑(widestS s) : Int)))), (6, (.sl 0 0 0 (List.len (List.map V.str (linesOf s))) none)), (7, (.int .i64 ((↑i : Int)))), (8, (.int .i64 ((↑N : Int) % 50))), (20, (.bool (decide ((↑i : Int) < (↑(List.len (List.map V.str (linesOf s))) : Int))))), (46, (.bool true)), (47, (.int .i64 0))] (@Go.AM.cWidest ([]) (by simp)) (by kernel_rfl) (by kernel_rfl) (by kernel_rfl) ?_
      refine Wl.batch (b := (base 3 50)) 15 18 [0, 1, 4, 5, 6, 7, 8, 20] [(0, (.str (s))), (1, (.int .u8 ((↑N : Int)))), (4, (.bool true)), (5, (.int .i64 ((↑(widestS s) : Int)))), (6, (.sl 0 0 0 (List.len (List.map V.str (linesOf s))) none)), (7, (.int .i64 ((↑i : Int)))), (8, (.int .i64 ((↑N : Int) % 50))), (20, (.bool (decide ((↑i : Int) < (↑(List.len (List.map V.str (linesOf s))) : Int)))))] (hp [.row 0 9 1 0 none (List.map V.str (linesOf s))]) [] (by kernel_rfl) rfl .nil ?_
      refine Wl.done 18 rfl ?_
      refine Wc.ret ?_
      refine retX.mk (.bool true) ⟨rfl, rfl⟩ (by kernel_rfl) ?_
      kernel_rfl

end Go.AM
