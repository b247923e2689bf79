/-
  UtfLines, WALKED over any arguments: it comes to true. No condition.
-/
import Derived.Test.YtimkfnaodbfjmaaDoorUtfWalks
namespace Go.AM
open Go.Proofs
set_option maxRecDepth 100000
set_option maxHeartbeats 4000000

theorem utfLines_walk (s : List UInt8) (hs : s.length ≤ 9223372036854775807) : ∃ v h', Ev Tryd.prog EU (.call 4 [.str s] Heap.empty) (.ret v h') ∧ v = .bool true := by
  refine Ev.body (fn := Tryd.f4) Tryd.func4 rfl (by kernel_rfl) ?_
  refine Wc.seq ?_
  refine Wc.whole (b := (base 4 55)) [0, 2] [(0, (.str (s))), (2, (.bool false))] Heap.empty [] (by kernel_rfl) .nil ?_
  refine Wc.seq ?_
  refine Wc.seq ?_
  refine Wc.whole (b := (base 4 55)) [0, 2, 10] [(0, (.str (s))), (2, (.bool false)), (10, (.bool (decide (300 < (↑(List.length s) : Int)))))] Heap.empty [] (by kernel_rfl) .nil ?_
  refine Wc.condP (p := 300 < (↑(List.length s) : Int)) (by kernel_rfl) (by kernel_rfl) (fun c1 => ?_) (fun c1 => ?_)
  · refine Wc.seq ?_
    refine Wc.whole (b := (base 4 55)) [0, 2, 10] [(0, (.str (s))), (2, (.bool true)), (10, (.bool (decide (300 < (↑(List.length s) : Int)))))] Heap.empty [] (by kernel_rfl) .nil ?_
    refine Wc.ret ?_
    refine retX.mk (.bool true) ⟨rfl, rfl⟩ (by kernel_rfl) ?_
    kernel_rfl
  · refine Wc.skip ?_
    refine Wc.seq ?_
    refine Wc.whole (b := (base 4 55)) [0, 2, 3, 10] [(0, (.str (s))), (2, (.bool false)), (3, (.int .i64 1)), (10, (.bool (decide (300 < (↑(List.length s) : Int)))))] Heap.empty [] (by kernel_rfl) .nil ?_
    refine Wc.seq ?_
    refine Wc.seq ?_
    refine Wc.whole (b := (base 4 55)) [0, 2, 3, 4, 10] [(0, (.str (s))), (2, (.bool false)), (3, (.int .i64 1)), (4, (.int .i64 0)), (10, (.bool (decide (300 < (↑(List.length s) : Int)))))] Heap.empty [] (by kernel_rfl) .nil ?_
    refine Wc.block ?_
    refine Wc.loop (α := Nat) (fun i => (base 4 55).on [(0, .str s), (2, .bool false), (3, .int .i64 (((s.take i).count 10 : Nat) + 1 : Int)), (4, .int .i64 (i : Int))]) (fun _ => Heap.empty) (fun i => i ≤ s.length) (fun i => s.length - i) 0 (Le.on [0, 2, 3, 4] (by kernel_rfl)) rfl (Nat.zero_le _) ?_
    intro i hi
    have hcl := List.count_le_length (a := (10 : UInt8)) (l := s.take i)
    rw [List.length_take] at hcl
    refine Wc.seq ?_
    refine Wc.seq ?_
    refine Wc.whole (b := (base 4 55)) [0, 2, 3, 4, 15] [(0, (.str (s))), (2, (.bool false)), (3, (.int .i64 ((↑(List.count 10 (List.take i s)) : Int) + 1))), (4, (.int .i64 ((↑i : Int)))), (15, (.bool (decide ((↑i : Int) < (↑(List.length s) : Int)))))] Heap.empty [] (by kernel_rfl) .nil ?_
    refine Wc.condP (p := (↑i : Int) < (↑(List.length s) : Int)) (by kernel_rfl) (by kernel_rfl) (fun c1 => ?_) (fun c1 => ?_)
    · refine Wc.skip ?_
      refine Wc.seq ?_
      refine Wc.block ?_
      refine Wc.seq ?_
      refine Wc.whole (b := (base 4 55)) [0, 2, 3, 4, 15, 21] [(0, (.str (s))), (2, (.bool false)), (3, (.int .i64 ((↑(List.count 10 (List.take i s)) : Int) + 1))), (4, (.int .i64 ((↑i : Int)))), (15, (.bool (decide ((↑i : Int) < (↑(List.length s) : Int))))), (21, (.bool (decide (byteAt s (↑i : Int) = 10))))] Heap.empty [(((0 : Int) ≤ (↑i : Int)) ∧ ((↑i : Int) < (↑(List.length s) : Int)))] (by kernel_rfl) (.cons (by omega) .nil) ?_
      refine Wc.condP (p := byteAt s (↑i : Int) = 10) (by kernel_rfl) (by kernel_rfl) (fun c2 => ?_) (fun c2 => ?_)
      · refine Wc.whole (b := (base 4 55)) [0, 2, 3, 4, 15, 21] [(0, (.str (s))), (2, (.bool false)), (3, (.int .i64 ((↑(List.count 10 (List.take i s)) : Int) + 1 + 1))), (4, (.int .i64 ((↑i : Int)))), (15, (.bool (decide ((↑i : Int) < (↑(List.length s) : Int))))), (21, (.bool (decide (byteAt s (↑i : Int) = 10))))] Heap.empty [(((-9223372036854775808 : Int) ≤ (↑(List.count (10 : UInt8) (List.take i s)) : Int) + (1 : Int) + (1 : Int)) ∧ ((↑(List.count (10 : UInt8) (List.take i s)) : Int) + (1 : Int) + (1 : Int) ≤ (9223372036854775807 : Int)))] (by kernel_rfl) (.cons (by omega) .nil) ?_
        refine Wc.whole (b := (base 4 55)) [0, 2, 3, 4, 15, 21] [(0, (.str (s))), (2, (.bool false)), (3, (.int .i64 ((↑(List.count 10 (List.take i s)) : Int) + 1 + 1))), (4, (.int .i64 ((↑i : Int) + 1))), (15, (.bool (decide ((↑i : Int) < (↑(List.length s) : Int))))), (21, (.bool (decide (byteAt s (↑i : Int) = 10))))] Heap.empty [(((-9223372036854775808 : Int) ≤ (↑i : Int) + (1 : Int)) ∧ ((↑i : Int) + (1 : Int) ≤ (9223372036854775807 : Int)))] (by kernel_rfl) (.cons (by omega) .nil) ?_
        have hlt : i < s.length := by omega
        have e := count_take hlt
        rw [if_pos (by with_reducible assumption)] at e
        refine ⟨i + 1, Le.on' [0, 2, 3, 4] [(0, .str s), (2, .bool false), (3, .int .i64 ((((s.take i).count 10 : Nat) : Int) + 1 + 1)), (4, .int .i64 ((i : Int) + 1))] (by kernel_rfl) ?_, rfl, hlt, by omega⟩
        rw [e]; rfl
      · refine Wc.skip ?_
        refine Wc.whole (b := (base 4 55)) [0, 2, 3, 4, 15, 21] [(0, (.str (s))), (2, (.bool false)), (3, (.int .i64 ((↑(List.count 10 (List.take i s)) : Int) + 1))), (4, (.int .i64 ((↑i : Int) + 1))), (15, (.bool (decide ((↑i : Int) < (↑(List.length s) : Int))))), (21, (.bool (decide (byteAt s (↑i : Int) = 10))))] Heap.empty [(((-9223372036854775808 : Int) ≤ (↑i : Int) + (1 : Int)) ∧ ((↑i : Int) + (1 : Int) ≤ (9223372036854775807 : Int)))] (by kernel_rfl) (.cons (by omega) .nil) ?_
        have hlt : i < s.length := by omega
        have e := count_take hlt
        rw [if_neg (by with_reducible assumption)] at e
        refine ⟨i + 1, Le.on' [0, 2, 3, 4] [(0, .str s), (2, .bool false), (3, .int .i64 ((((s.take i).count 10 : Nat) : Int) + 1)), (4, .int .i64 ((i : Int) + 1))] (by kernel_rfl) ?_, rfl, hlt, by omega⟩
        rw [e]; rfl
    · refine Wc.exit ?_
      refine blockX.here ?_
      refine Wc.seq ?_
      refine Wc.enter ?_
      refine Wl.batch (b := (base 4 55)) 0 1 [0, 2, 3, 4, 15, 24] [(0, (.str (s))), (2, (.bool false)), (3, (.int .i64 ((↑(List.count 10 (List.take i s)) : Int) + 1))), (4, (.int .i64 ((↑i : Int)))), (15, (.bool (decide ((↑i : Int) < (↑(List.length s) : Int))))), (24, (.str (s)))] Heap.empty [] (by kernel_rfl) rfl .nil ?_
      refine Wl.callP (b := (base 4 55)) (h1 := Heap.empty) (h2 := (hp [.row 0 9 1 0 none (List.map V.str (linesOf s))])) (v := (.sl 0 0 0 (List.len (List.map V.str (linesOf s))) none)) (d := (some 25)) 1 [0, 2, 3, 4, 15, 25] [(0, (.str (s))), (2, (.bool false)), (3, (.int .i64 ((↑(List.count 10 (List.take i s)) : Int) + 1))), (4, (.int .i64 ((↑i : Int)))), (15, (.bool (decide ((↑i : Int) < (↑(List.length s) : Int))))), (25, (.sl 0 0 0 (List.len (List.map V.str (linesOf s))) none))] (@Go.AM.c13 (s) (by omega)) (by kernel_rfl) (by kernel_rfl) (by kernel_rfl) ?_
      refine Wl.batch (b := (base 4 55)) 2 3 [0, 2, 3, 4, 5, 15] [(0, (.str (s))), (2, (.bool false)), (3, (.int .i64 ((↑(List.count 10 (List.take i s)) : Int) + 1))), (4, (.int .i64 ((↑i : Int)))), (5, (.sl 0 0 0 (List.len (List.map V.str (linesOf s))) none)), (15, (.bool (decide ((↑i : Int) < (↑(List.length s) : Int)))))] (hp [.row 0 9 1 0 none (List.map V.str (linesOf s))]) [] (by kernel_rfl) rfl .nil ?_
      refine Wl.done 3 rfl ?_
      refine Wc.seq ?_
      refine Wc.seq ?_
      refine Wc.whole (b := (base 4 55)) [0, 2, 3, 4, 5, 6, 15] [(0, (.str (s))), (2, (.bool false)), (3, (.int .i64 ((↑(List.count 10 (List.take i s)) : Int) + 1))), (4, (.int .i64 ((↑i : Int)))), (5, (.sl 0 0 0 (List.len (List.map V.str (linesOf s))) none)), (6, (.int .i64 0)), (15, (.bool (decide ((↑i : Int) < (↑(List.length s) : Int)))))] (hp [.row 0 9 1 0 none (List.map V.str (linesOf s))]) [] (by kernel_rfl) .nil ?_
      refine Wc.block ?_
      have hlen := len_lines s
      have hcnt := linesOf_length s
      have hall : s.take i = s := List.take_of_length_le (by omega)
      rw [hall]
      refine Wc.loop (α := Nat) (fun j => (base 4 55).on [(2, (.bool false)), (3, (.int .i64 ((↑(List.count 10 s) : Int) + 1))), (5, (.sl 0 0 0 (List.len (List.map V.str (linesOf s))) none)), (6, (.int .i64 (j : Int)))]) (fun _ => hp [.row 0 9 1 0 none (List.map V.str (linesOf s))]) (fun j => j ≤ (linesOf s).length) (fun j => (linesOf s).length - j) 0 (Le.on [2, 3, 5, 6] (by kernel_rfl)) rfl (Nat.zero_le _) ?_
      intro j hj
      refine Wc.seq ?_
      refine Wc.seq ?_
      refine Wc.whole (b := (base 4 55)) [2, 3, 5, 6, 29] [(2, (.bool false)), (3, (.int .i64 ((↑(List.count 10 s) : Int) + 1))), (5, (.sl 0 0 0 (List.len (List.map V.str (linesOf s))) none)), (6, (.int .i64 ((↑j : Int)))), (29, (.bool (decide ((↑j : Int) < (↑(List.len (List.map V.str (linesOf s))) : Int)))))] (hp [.row 0 9 1 0 none (List.map V.str (linesOf s))]) [] (by kernel_rfl) .nil ?_
      refine Wc.condP (p := (↑j : Int) < (↑(List.len (List.map V.str (linesOf s))) : Int)) (by kernel_rfl) (by kernel_rfl) (fun c1 => ?_) (fun c1 => ?_)
      · refine Wc.skip ?_
        refine Wc.seq ?_
        refine Wc.block ?_
        refine Wc.seq ?_
        refine Wc.whole (b := (base 4 55)) [2, 3, 5, 6, 7, 29] [(2, (.bool false)), (3, (.int .i64 ((↑(List.count 10 s) : Int) + 1))), (5, (.sl 0 0 0 (List.len (List.map V.str (linesOf s))) none)), (6, (.int .i64 ((↑j : Int)))), (7, (.int .i64 0)), (29, (.bool (decide ((↑j : Int) < (↑(List.len (List.map V.str (linesOf s))) : Int)))))] (hp [.row 0 9 1 0 none (List.map V.str (linesOf s))]) [] (by kernel_rfl) .nil ?_
        refine Wc.block ?_
        have hj' : j < (linesOf s).length := by omega
        have hcl2 := List.count_le_length (a := (10 : UInt8)) (l := s)
        refine Wc.loop (α := Nat) (fun k => (base 4 55).on [(2, (.bool false)), (3, (.int .i64 ((↑(List.count 10 s) : Int) + 1))), (5, (.sl 0 0 0 (List.len (List.map V.str (linesOf s))) none)), (6, (.int .i64 ((↑j : Int)))), (7, (.int .i64 (k : Int)))]) (fun _ => hp [.row 0 9 1 0 none (List.map V.str (linesOf s))]) (fun k => k ≤ ((linesOf s).getD j []).length) (fun k => ((linesOf s).getD j []).length - k) 0 (Le.on [2, 3, 5, 6, 7] (by kernel_rfl)) rfl (Nat.zero_le _) ?_
        intro k hk
        by_cases hk' : k < ((linesOf s).getD j []).length
        · have hno := line_byte s hj' hk'
          refine Wc.seq ?_
          refine Wc.seq ?_
          refine Wc.enter ?_
          refine Wl.batch (b := (base 4 55)) 0 4 [2, 3, 5, 6, 7, 32, 35] [(2, (.bool false)), (3, (.int .i64 ((↑(List.count 10 s) : Int) + 1))), (5, (.sl 0 0 0 (List.len (List.map V.str (linesOf s))) none)), (6, (.int .i64 ((↑j : Int)))), (7, (.int .i64 ((↑k : Int)))), (32, (.int .i64 ((↑k : Int)))), (35, (.ptr 0 0 ((0 + j) * 1)))] (hp [.row 0 9 1 0 none (List.map V.str (linesOf s))]) [(((0 : Int) ≤ (↑j : Int)) ∧ ((↑j : Int) < (↑(List.len (List.map V.str (linesOf s))) : Int)))] (by kernel_rfl) rfl (.cons (by omega) .nil) ?_
          refine Wl.load (b := (base 4 55)) (t := 9) (a := (.ptr 0 0 ((0 + j) * 1))) (d := (some 36)) 4 (.str (List.getD (linesOf s) j [])) [2, 3, 5, 6, 7, 32, 36] [(2, (.bool false)), (3, (.int .i64 ((↑(List.count 10 s) : Int) + 1))), (5, (.sl 0 0 0 (List.len (List.map V.str (linesOf s))) none)), (6, (.int .i64 ((↑j : Int)))), (7, (.int .i64 ((↑k : Int)))), (32, (.int .i64 ((↑k : Int)))), (36, (.str (List.getD (linesOf s) j [])))] (by kernel_rfl) (@Go.AM.ld11n (s) (j) (by with_reducible assumption)) (by kernel_rfl) ?_
          refine Wl.batch (b := (base 4 55)) 5 7 [2, 3, 5, 6, 7, 38] [(2, (.bool false)), (3, (.int .i64 ((↑(List.count 10 s) : Int) + 1))), (5, (.sl 0 0 0 (List.len (List.map V.str (linesOf s))) none)), (6, (.int .i64 ((↑j : Int)))), (7, (.int .i64 ((↑k : Int)))), (38, (.bool (decide ((↑k : Int) < (↑(List.length (List.getD (linesOf s) j [])) : Int)))))] (hp [.row 0 9 1 0 none (List.map V.str (linesOf s))]) [] (by kernel_rfl) rfl .nil ?_
          refine Wl.done 7 rfl ?_
          refine Wc.condP (p := (↑k : Int) < (↑(List.length (List.getD (linesOf s) j [])) : Int)) (by kernel_rfl) (by kernel_rfl) (fun c1 => ?_) (fun c1 => absurd (show (↑k : Int) < (↑(List.length (List.getD (linesOf s) j [])) : Int) from (by omega)) c1)
          refine Wc.skip ?_
          refine Wc.seq ?_
          refine Wc.block ?_
          refine Wc.seq ?_
          refine Wc.enter ?_
          refine Wl.batch (b := (base 4 55)) 0 3 [2, 3, 5, 6, 7, 38, 43] [(2, (.bool false)), (3, (.int .i64 ((↑(List.count 10 s) : Int) + 1))), (5, (.sl 0 0 0 (List.len (List.map V.str (linesOf s))) none)), (6, (.int .i64 ((↑j : Int)))), (7, (.int .i64 ((↑k : Int)))), (38, (.bool (decide ((↑k : Int) < (↑(List.length (List.getD (linesOf s) j [])) : Int))))), (43, (.ptr 0 0 ((0 + j) * 1)))] (hp [.row 0 9 1 0 none (List.map V.str (linesOf s))]) [(((0 : Int) ≤ (↑j : Int)) ∧ ((↑j : Int) < (↑(List.len (List.map V.str (linesOf s))) : Int)))] (by kernel_rfl) rfl (.cons (by omega) .nil) ?_
          refine Wl.load (b := (base 4 55)) (t := 9) (a := (.ptr 0 0 ((0 + j) * 1))) (d := (some 44)) 3 (.str (List.getD (linesOf s) j [])) [2, 3, 5, 6, 7, 38, 44] [(2, (.bool false)), (3, (.int .i64 ((↑(List.count 10 s) : Int) + 1))), (5, (.sl 0 0 0 (List.len (List.map V.str (linesOf s))) none)), (6, (.int .i64 ((↑j : Int)))), (7, (.int .i64 ((↑k : Int)))), (38, (.bool (decide ((↑k : Int) < (↑(List.length (List.getD (linesOf s) j [])) : Int))))), (44, (.str (List.getD (linesOf s) j [])))] (by kernel_rfl) (@Go.AM.ld11n (s) (j) (by with_reducible assumption)) (by kernel_rfl) ?_
          refine Wl.batch (b := (base 4 55)) 4 7 [2, 3, 5, 6, 7, 38, 47] [(2, (.bool false)), (3, (.int .i64 ((↑(List.count 10 s) : Int) + 1))), (5, (.sl 0 0 0 (List.len (List.map V.str (linesOf s))) none)), (6, (.int .i64 ((↑j : Int)))), (7, (.int .i64 ((↑k : Int)))), (38, (.bool (decide ((↑k : Int) < (↑(List.length (List.getD (linesOf s) j [])) : Int))))), (47, (.bool (decide (byteAt (List.getD (linesOf s) j []) (↑k : Int) = 10))))] (hp [.row 0 9 1 0 none (List.map V.str (linesOf s))]) [(((0 : Int) ≤ (↑k : Int)) ∧ ((↑k : Int) < (↑(List.length (List.getD (linesOf s) j [])) : Int)))] (by kernel_rfl) rfl (.cons (by omega) .nil) ?_
          refine Wl.done 7 rfl ?_
          refine Wc.condP (p := byteAt (List.getD (linesOf s) j []) (↑k : Int) = 10) (by kernel_rfl) (by kernel_rfl) (fun c2 => absurd c2 (show ¬ (byteAt (List.getD (linesOf s) j []) (↑k : Int) = 10) from (by with_reducible assumption))) (fun c2 => ?_)
          refine Wc.skip ?_
          refine Wc.whole (b := (base 4 55)) [2, 3, 5, 6, 7, 38, 47] [(2, (.bool false)), (3, (.int .i64 ((↑(List.count 10 s) : Int) + 1))), (5, (.sl 0 0 0 (List.len (List.map V.str (linesOf s))) none)), (6, (.int .i64 ((↑j : Int)))), (7, (.int .i64 ((↑k : Int) + 1))), (38, (.bool (decide ((↑k : Int) < (↑(List.length (List.getD (linesOf s) j [])) : Int))))), (47, (.bool (decide (byteAt (List.getD (linesOf s) j []) (↑k : Int) = 10))))] (hp [.row 0 9 1 0 none (List.map V.str (linesOf s))]) [(((-9223372036854775808 : Int) ≤ (↑k : Int) + (1 : Int)) ∧ ((↑k : Int) + (1 : Int) ≤ (9223372036854775807 : Int)))] (by kernel_rfl) (.cons (by have := line_le s j; omega) .nil) ?_
          exact ⟨k + 1, Le.on [2, 3, 5, 6, 7] (by kernel_rfl), rfl, by omega, by omega⟩
        · refine Wc.seq ?_
          refine Wc.seq ?_
          refine Wc.enter ?_
          refine Wl.batch (b := (base 4 55)) 0 4 [2, 3, 5, 6, 7, 32, 35] [(2, (.bool false)), (3, (.int .i64 ((↑(List.count 10 s) : Int) + 1))), (5, (.sl 0 0 0 (List.len (List.map V.str (linesOf s))) none)), (6, (.int .i64 ((↑j : Int)))), (7, (.int .i64 ((↑k : Int)))), (32, (.int .i64 ((↑k : Int)))), (35, (.ptr 0 0 ((0 + j) * 1)))] (hp [.row 0 9 1 0 none (List.map V.str (linesOf s))]) [(((0 : Int) ≤ (↑j : Int)) ∧ ((↑j : Int) < (↑(List.len (List.map V.str (linesOf s))) : Int)))] (by kernel_rfl) rfl (.cons (by omega) .nil) ?_
          refine Wl.load (b := (base 4 55)) (t := 9) (a := (.ptr 0 0 ((0 + j) * 1))) (d := (some 36)) 4 (.str (List.getD (linesOf s) j [])) [2, 3, 5, 6, 7, 32, 36] [(2, (.bool false)), (3, (.int .i64 ((↑(List.count 10 s) : Int) + 1))), (5, (.sl 0 0 0 (List.len (List.map V.str (linesOf s))) none)), (6, (.int .i64 ((↑j : Int)))), (7, (.int .i64 ((↑k : Int)))), (32, (.int .i64 ((↑k : Int)))), (36, (.str (List.getD (linesOf s) j [])))] (by kernel_rfl) (@Go.AM.ld11n (s) (j) (by with_reducible assumption)) (by kernel_rfl) ?_
          refine Wl.batch (b := (base 4 55)) 5 7 [2, 3, 5, 6, 7, 38] [(2, (.bool false)), (3, (.int .i64 ((↑(List.count 10 s) : Int) + 1))), (5, (.sl 0 0 0 (List.len (List.map V.str (linesOf s))) none)), (6, (.int .i64 ((↑j : Int)))), (7, (.int .i64 ((↑k : Int)))), (38, (.bool (decide ((↑k : Int) < (↑(List.length (List.getD (linesOf s) j [])) : Int)))))] (hp [.row 0 9 1 0 none (List.map V.str (linesOf s))]) [] (by kernel_rfl) rfl .nil ?_
          refine Wl.done 7 rfl ?_
          refine Wc.condP (p := (↑k : Int) < (↑(List.length (List.getD (linesOf s) j [])) : Int)) (by kernel_rfl) (by kernel_rfl) (fun c1 => absurd c1 (show ¬ ((↑k : Int) < (↑(List.length (List.getD (linesOf s) j [])) : Int)) from (by omega))) (fun c1 => ?_)
          refine Wc.exit ?_
          refine blockX.here ?_
          refine Wc.whole (b := (base 4 55)) [2, 3, 5, 6, 7, 38] [(2, (.bool false)), (3, (.int .i64 ((↑(List.count 10 s) : Int) + 1))), (5, (.sl 0 0 0 (List.len (List.map V.str (linesOf s))) none)), (6, (.int .i64 ((↑j : Int) + 1))), (7, (.int .i64 ((↑k : Int)))), (38, (.bool (decide ((↑k : Int) < (↑(List.length (List.getD (linesOf s) j [])) : Int)))))] (hp [.row 0 9 1 0 none (List.map V.str (linesOf s))]) [(((-9223372036854775808 : Int) ≤ (↑j : Int) + (1 : Int)) ∧ ((↑j : Int) + (1 : Int) ≤ (9223372036854775807 : Int)))] (by kernel_rfl) (.cons (by omega) .nil) ?_
          exact ⟨j + 1, Le.on [2, 3, 5, 6] (by kernel_rfl), rfl, by omega, by omega⟩
      · refine Wc.exit ?_
        refine blockX.here ?_
        refine Wc.seq ?_
        refine Wc.whole (b := (base 4 55)) [2, 3, 5, 6, 29] [(2, (.bool (decide ((↑(List.len (List.map V.str (linesOf s))) : Int) = (↑(List.count 10 s) : Int) + 1)))), (3, (.int .i64 ((↑(List.count 10 s) : Int) + 1))), (5, (.sl 0 0 0 (List.len (List.map V.str (linesOf s))) none)), (6, (.int .i64 ((↑j : Int)))), (29, (.bool (decide ((↑j : Int) < (↑(List.len (List.map V.str (linesOf s))) : Int)))))] (hp [.row 0 9 1 0 none (List.map V.str (linesOf s))]) [] (by kernel_rfl) .nil ?_
        refine Wc.ret ?_
        refine retX.mk (.bool (decide ((↑(List.len (List.map V.str (linesOf s))) : Int) = (↑(List.count 10 s) : Int) + 1))) ⟨rfl, rfl⟩ (by kernel_rfl) ?_
        rw [decide_eq_true (show ((List.len (List.map V.str (linesOf s)) : Nat) : Int) = ((s.count 10 : Nat) : Int) + 1 by omega)]

end Go.AM
