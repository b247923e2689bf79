/-
  WHAT THE FUNCTIONS THAT THE LAWS CALL COME TO, over any text: walked over states of which a part is known. No condition but what each says of its arguments.
-/
import Derived.Test.YtmgoingbogepoaaDoorAmEnvU
import Derived.Test.YtmgoingbogepoaaDoorUtfLaws
namespace Go.AM
open Go.Proofs
set_option maxRecDepth 100000
set_option maxHeartbeats 4000000

theorem c45 (s : List UInt8) : Cp Tryd.prog EU 56 [.str s, .int .u8 10] (.int .i64 (findByte 10 s 0)) :=
  Cp.ext (fn := Tryd.f56) Tryd.func56 rfl (h := Heap.empty) (v := .int .i64 (findByte 10 s 0)) (by kernel_rfl) rfl
theorem c40 (s : List UInt8) : Cp Tryd.prog EU 51 [.str s, .int .u8 10] (.int .i64 (findByte 10 s 0)) := by
  refine Cp.body (fn := Tryd.f51) Tryd.func51 rfl (by kernel_rfl) ?_
  refine Wc.seq ?_
  refine Wc.whole (b := (base 51 8)) [0, 1, 4] [(0, (.str (s))), (1, (.int .u8 10)), (4, (.int .i64 0))] Heap.empty [] (by kernel_rfl) .nil ?_
  refine Wc.seq ?_
  refine Wc.enter ?_
  refine Wl.batch (b := (base 51 8)) 0 2 [0, 1, 4, 5, 6] [(0, (.str (s))), (1, (.int .u8 10)), (4, (.int .i64 0)), (5, (.str (s))), (6, (.int .u8 10))] Heap.empty [] (by kernel_rfl) rfl .nil ?_
  refine Wl.callP (b := (base 51 8)) (h1 := Heap.empty) (h2 := Heap.empty) (v := (.int .i64 (findByte 10 s 0))) (d := (some 7)) 2 [0, 1, 4, 7] [(0, (.str (s))), (1, (.int .u8 10)), (4, (.int .i64 0)), (7, (.int .i64 (findByte 10 s 0)))] (@Go.AM.c45 (s)) (by kernel_rfl) (by kernel_rfl) (by kernel_rfl) ?_
  refine Wl.batch (b := (base 51 8)) 3 4 [0, 1, 4] [(0, (.str (s))), (1, (.int .u8 10)), (4, (.int .i64 (findByte 10 s 0)))] Heap.empty [] (by kernel_rfl) rfl .nil ?_
  refine Wl.done 4 rfl ?_
  refine Wc.ret ?_
  refine retX.mk (.int .i64 (findByte 10 s 0)) ⟨rfl, rfl⟩ (by kernel_rfl) ?_
  kernel_rfl
theorem c35 (s : List UInt8) : Cp Tryd.prog EU 44 [.str s, .str [10]] (.int .i64 (findByte 10 s 0)) := by
  refine Cp.body (fn := Tryd.f44) Tryd.func44 rfl (by kernel_rfl) ?_
  refine Wc.seq ?_
  refine Wc.whole (b := (base 44 143)) [0, 1, 4] [(0, (.str (s))), (1, (.str [10])), (4, (.int .i64 0))] Heap.empty [] (by kernel_rfl) .nil ?_
  refine Wc.seq ?_
  refine Wc.whole (b := (base 44 143)) [0, 1, 4, 5] [(0, (.str (s))), (1, (.str [10])), (4, (.int .i64 0)), (5, (.int .i64 1))] Heap.empty [] (by kernel_rfl) .nil ?_
  refine Wc.seq ?_
  refine Wc.block ?_
  refine Wc.seq ?_
  refine Wc.whole (b := (base 44 143)) [0, 1, 4, 5, 16] [(0, (.str (s))), (1, (.str [10])), (4, (.int .i64 0)), (5, (.int .i64 1)), (16, (.bool (decide ([10] = s))))] Heap.empty [] (by kernel_rfl) .nil ?_
  refine Wc.condP (p := [10] = s) (by kernel_rfl) (by kernel_rfl) (fun c1 => ?_) (fun c1 => ?_)
  · refine Wc.seq ?_
    refine Wc.whole (b := (base 44 143)) [0, 1, 4, 5, 16] [(0, (.str (s))), (1, (.str [10])), (4, (.int .i64 0)), (5, (.int .i64 1)), (16, (.bool (decide ([10] = s))))] Heap.empty [] (by kernel_rfl) .nil ?_
    refine Wc.ret ?_
    refine blockX.ret ?_
    refine retX.mk (.int .i64 0) ⟨rfl, rfl⟩ (by kernel_rfl) ?_
    subst c1; kernel_rfl
  · refine Wc.seq ?_
    refine Wc.whole (b := (base 44 143)) [0, 1, 4, 5, 16, 24] [(0, (.str (s))), (1, (.str [10])), (4, (.int .i64 0)), (5, (.int .i64 1)), (16, (.bool (decide ([10] = s)))), (24, (.bool true))] Heap.empty [] (by kernel_rfl) .nil ?_
    refine Wc.condT (by kernel_rfl) (by kernel_rfl) ?_
    refine Wc.seq ?_
    refine Wc.enter ?_
    refine Wl.batch (b := (base 44 143)) 0 3 [0, 1, 4, 5, 16, 24, 27, 29] [(0, (.str (s))), (1, (.str [10])), (4, (.int .i64 0)), (5, (.int .i64 1)), (16, (.bool (decide ([10] = s)))), (24, (.bool true)), (27, (.str (s))), (29, (.int .u8 10))] Heap.empty [(((0 : Int) ≤ (0 : Int)) ∧ ((0 : Int) < (1 : Int)))] (by kernel_rfl) rfl (.cons (by omega) .nil) ?_
    refine Wl.callP (b := (base 44 143)) (h1 := Heap.empty) (h2 := Heap.empty) (v := (.int .i64 (findByte 10 s 0))) (d := (some 30)) 3 [0, 1, 4, 5, 16, 24, 30] [(0, (.str (s))), (1, (.str [10])), (4, (.int .i64 0)), (5, (.int .i64 1)), (16, (.bool (decide ([10] = s)))), (24, (.bool true)), (30, (.int .i64 (findByte 10 s 0)))] (@Go.AM.c40 (s)) (by kernel_rfl) (by kernel_rfl) (by kernel_rfl) ?_
    refine Wl.batch (b := (base 44 143)) 4 5 [0, 1, 4, 5, 16, 24] [(0, (.str (s))), (1, (.str [10])), (4, (.int .i64 (findByte 10 s 0))), (5, (.int .i64 1)), (16, (.bool (decide ([10] = s)))), (24, (.bool true))] Heap.empty [] (by kernel_rfl) rfl .nil ?_
    refine Wl.done 5 rfl ?_
    refine Wc.ret ?_
    refine blockX.ret ?_
    refine retX.mk (.int .i64 (findByte 10 s 0)) ⟨rfl, rfl⟩ (by kernel_rfl) ?_
    rfl
theorem c29 (s : List UInt8) : Cp Tryd.prog EU 47 [.str s, .str [10]] (.int .i64 (findByte 10 s 0)) := by
  refine Cp.body (fn := Tryd.f47) Tryd.func47 rfl (by kernel_rfl) ?_
  refine Wc.seq ?_
  refine Wc.whole (b := (base 47 8)) [0, 1, 4] [(0, (.str (s))), (1, (.str [10])), (4, (.int .i64 0))] Heap.empty [] (by kernel_rfl) .nil ?_
  refine Wc.seq ?_
  refine Wc.enter ?_
  refine Wl.batch (b := (base 47 8)) 0 2 [0, 1, 4, 5, 6] [(0, (.str (s))), (1, (.str [10])), (4, (.int .i64 0)), (5, (.str (s))), (6, (.str [10]))] Heap.empty [] (by kernel_rfl) rfl .nil ?_
  refine Wl.callP (b := (base 47 8)) (h1 := Heap.empty) (h2 := Heap.empty) (v := (.int .i64 (findByte 10 s 0))) (d := (some 7)) 2 [0, 1, 4, 7] [(0, (.str (s))), (1, (.str [10])), (4, (.int .i64 0)), (7, (.int .i64 (findByte 10 s 0)))] (@Go.AM.c35 (s)) (by kernel_rfl) (by kernel_rfl) (by kernel_rfl) ?_
  refine Wl.batch (b := (base 47 8)) 3 4 [0, 1, 4] [(0, (.str (s))), (1, (.str [10])), (4, (.int .i64 (findByte 10 s 0)))] Heap.empty [] (by kernel_rfl) rfl .nil ?_
  refine Wl.done 4 rfl ?_
  refine Wc.ret ?_
  refine retX.mk (.int .i64 (findByte 10 s 0)) ⟨rfl, rfl⟩ (by kernel_rfl) ?_
  kernel_rfl
theorem c16 (s : List UInt8) (hs : s.length ≤ 1099511627776) : Cp Tryd.prog EU 12 [.str s] (.int .i64 ((wide s : Nat) : Int)) := by
  refine Cp.body (fn := Tryd.f12) Tryd.func12 rfl (by kernel_rfl) ?_
  refine Wc.seq ?_
  refine Wc.whole (b := (base 12 11)) [0, 2] [(0, (.str (s))), (2, (.int .i64 0))] Heap.empty [] (by kernel_rfl) .nil ?_
  refine Wc.seq ?_
  refine Wc.whole (b := (base 12 11)) [0, 2, 3] [(0, (.str (s))), (2, (.int .i64 0)), (3, (.int .i64 0))] Heap.empty [] (by kernel_rfl) .nil ?_
  refine Wc.seq ?_
  refine Wc.seq ?_
  refine Wc.whole (b := (base 12 11)) [0, 2, 3, 5] [(0, (.str (s))), (2, (.int .i64 0)), (3, (.int .i64 0)), (5, (.iter 0))] (hp [.siter (s) 0]) [] (by kernel_rfl) .nil ?_
  refine Wc.block ?_
  refine Wc.loop (α := Nat × Nat) (fun a => (base 12 11).on [(0, .str s), (2, .int .i64 0), (3, .int .i64 (a.2 : Int)), (5, .iter 0)]) (fun a => hp [.siter s a.1]) (fun a => a.1 ≤ s.length ∧ a.2 ≤ a.1 ∧ wide s = a.2 + wide (s.drop a.1)) (fun a => s.length - a.1) (0, 0) (Le.refl _) rfl ⟨Nat.zero_le _, Nat.le_refl _, by rw [List.drop_zero, Nat.zero_add]⟩ ?_
  rintro ⟨p, n⟩ ⟨hq, hn, hw⟩
  simp only at hq hn hw ⊢
  refine Wc.seq ?_
  refine Wc.enter ?_
  refine Wl.next (b := (base 12 11)) (d := (some 6)) 0 0 (s) (p) (hp [.siter (s) (p + lenAt s p)]) [0, 2, 3, 5, 6] [(0, (.str (s))), (2, (.int .i64 0)), (3, (.int .i64 ((↑n : Int)))), (5, (.iter 0)), (6, (.tup [(.bool true), (.int .i64 ((↑p : Int))), (.int .i32 ((↑(runeAt s p) : Int)))]))] [(0, (.str (s))), (2, (.int .i64 0)), (3, (.int .i64 ((↑n : Int)))), (5, (.iter 0)), (6, (.tup [(.bool false)]))] (by kernel_rfl) (by kernel_rfl) (by kernel_rfl) (by kernel_rfl) (fun c1 => ?_) (fun c1 => ?_)
  · refine Wl.batch (b := (base 12 11)) 1 2 [0, 2, 3, 5, 7] [(0, (.str (s))), (2, (.int .i64 0)), (3, (.int .i64 ((↑n : Int)))), (5, (.iter 0)), (7, (.bool true))] (hp [.siter (s) (p + lenAt s p)]) [] (by kernel_rfl) rfl .nil ?_
    refine Wl.done 2 rfl ?_
    refine Wc.seq ?_
    refine Wc.condT (by kernel_rfl) (by kernel_rfl) ?_
    refine Wc.skip ?_
    refine Wc.block ?_
    refine Wc.whole (b := (base 12 11)) [0, 2, 3, 5, 7] [(0, (.str (s))), (2, (.int .i64 0)), (3, (.int .i64 ((↑n : Int) + 1))), (5, (.iter 0)), (7, (.bool true))] (hp [.siter (s) (p + lenAt s p)]) [(((-9223372036854775808 : Int) ≤ (↑n : Int) + (1 : Int)) ∧ ((↑n : Int) + (1 : Int) ≤ (9223372036854775807 : Int)))] (by kernel_rfl) (.cons (by omega) .nil) ?_
    have h1 := next_le c1
    refine ⟨(p + lenAt s p, n + 1), Le.on [0, 2, 3, 5] (by kernel_rfl), rfl, ⟨h1.1, by show n + 1 ≤ p + lenAt s p; omega, ?_⟩, by show s.length - (p + lenAt s p) < s.length - p; omega⟩
    show wide s = n + 1 + wide (s.drop (p + lenAt s p))
    rw [hw, wide_next c1]; omega
  · refine Wl.batch (b := (base 12 11)) 1 2 [0, 2, 3, 5, 7] [(0, (.str (s))), (2, (.int .i64 0)), (3, (.int .i64 ((↑n : Int)))), (5, (.iter 0)), (7, (.bool false))] (hp [.siter (s) (p)]) [] (by kernel_rfl) rfl .nil ?_
    refine Wl.done 2 rfl ?_
    refine Wc.seq ?_
    refine Wc.condF (by kernel_rfl) (by kernel_rfl) ?_
    refine Wc.exit ?_
    refine blockX.here ?_
    refine Wc.seq ?_
    refine Wc.whole (b := (base 12 11)) [0, 2, 3, 5, 7] [(0, (.str (s))), (2, (.int .i64 ((↑n : Int)))), (3, (.int .i64 ((↑n : Int)))), (5, (.iter 0)), (7, (.bool false))] (hp [.siter (s) (p)]) [] (by kernel_rfl) .nil ?_
    refine Wc.ret ?_
    refine retX.mk (.int .i64 ((↑n : Int))) ⟨rfl, rfl⟩ (by kernel_rfl) ?_
    refine congrArg (fun x => some (V.int .i64 x)) ?_
    rw [hw, List.drop_eq_nil_of_le (by omega), wide_nil]; rfl
theorem c13 (s : List UInt8) (hs : s.length ≤ 1000) : Cp Tryd.prog EU 11 [.str s] (.fsl 9 1 0 ((linesOf s).map .str) none) := by
  refine Cp.body (fn := Tryd.f11) Tryd.func11 rfl (by kernel_rfl) ?_
  refine Wc.seq ?_
  refine Wc.whole (b := (base 11 13)) [0, 2] [(0, (.str (s))), (2, .nils)] Heap.empty [] (by kernel_rfl) .nil ?_
  refine Wc.seq ?_
  refine Wc.whole (b := (base 11 13)) [0, 2, 3] [(0, (.str (s))), (2, .nils), (3, (.ptr 0 0 0))] (hp [.row 0 24 1 0 (some 1) [.nils]]) [] (by kernel_rfl) .nil ?_
  refine Wc.seq ?_
  refine Wc.seq ?_
  refine Wc.enter ?_
  refine Wl.batch (b := (base 11 13)) 0 1 [0, 2, 3, 5] [(0, (.str (s))), (2, .nils), (3, (.ptr 0 0 0)), (5, (.str (s)))] (hp [.row 0 24 1 0 (some 1) [.nils]]) [] (by kernel_rfl) rfl .nil ?_
  refine Wl.callI (b := (base 11 13)) (h1 := (hp [.row 0 24 1 0 (some 1) [.nils]])) (args := [(.str (s)), (.str [10])]) (d := (some 6)) (fn := Go.Proofs.Tryd.f23) 1 Go.Proofs.Tryd.func23 rfl (by kernel_rfl) (by kernel_rfl) ?_
  refine Wc.seq ?_
  refine Wc.whole (b := (base 23 8)) [0, 1, 4] [(0, (.str (s))), (1, (.str [10])), (4, .nilf)] (hp [.row 0 24 1 0 (some 1) [.nils]]) [] (by kernel_rfl) .nil ?_
  refine Wc.seq ?_
  refine Wc.enter ?_
  refine Wl.batch (b := (base 23 8)) 0 2 [0, 1, 4, 5, 6] [(0, (.str (s))), (1, (.str [10])), (4, .nilf), (5, (.str (s))), (6, (.str [10]))] (hp [.row 0 24 1 0 (some 1) [.nils]]) [] (by kernel_rfl) rfl .nil ?_
  refine Wl.callI (b := (base 23 8)) (h1 := (hp [.row 0 24 1 0 (some 1) [.nils]])) (args := [(.str (s)), (.str [10]), (.int .i64 0)]) (d := (some 7)) (fn := Go.Proofs.Tryd.f35) 2 Go.Proofs.Tryd.func35 rfl (by kernel_rfl) (by kernel_rfl) ?_
  refine Wc.seq ?_
  refine Wc.whole (b := (base 35 8)) [0, 1, 2, 3, 4, 5, 6] [(0, (.str (s))), (1, (.str [10])), (2, (.int .i64 0)), (3, (.ptr 1 0 0)), (4, (.ptr 2 0 0)), (5, (.ptr 3 0 0)), (6, .nilf)] (hp [.row 0 24 1 0 (some 1) [.nils], .row 0 9 1 0 (some 1) [(.str (s))], .row 0 9 1 0 (some 1) [(.str [10])], .row 0 3 1 0 (some 1) [(.int .i64 0)]]) [] (by kernel_rfl) .nil ?_
  refine Wc.seq ?_
  refine Wc.whole (b := (base 35 8)) [0, 1, 2, 3, 4, 5, 6] [(0, (.str (s))), (1, (.str [10])), (2, (.int .i64 0)), (3, (.ptr 1 0 0)), (4, (.ptr 2 0 0)), (5, (.ptr 3 0 0)), (6, (.func (.func 45) [] [(.ptr 2 0 0), (.ptr 1 0 0), (.ptr 3 0 0)]))] (hp [.row 0 24 1 0 (some 1) [.nils], .row 0 9 1 0 (some 1) [(.str (s))], .row 0 9 1 0 (some 1) [(.str [10])], .row 0 3 1 0 (some 1) [(.int .i64 0)]]) [] (by kernel_rfl) .nil ?_
  refine Wc.ret ?_
  refine retX.mk (.func (.func 45) [] [(.ptr 2 0 0), (.ptr 1 0 0), (.ptr 3 0 0)]) ⟨rfl, rfl⟩ (by kernel_rfl) ?_
  refine cNext.mk [0, 1, 4, 7] [(0, (.str (s))), (1, (.str [10])), (4, .nilf), (7, (.func (.func 45) [] [(.ptr 2 0 0), (.ptr 1 0 0), (.ptr 3 0 0)]))] (by kernel_rfl) ?_
  refine Wl.batch (b := (base 23 8)) 3 4 [0, 1, 4] [(0, (.str (s))), (1, (.str [10])), (4, (.func (.func 45) [] [(.ptr 2 0 0), (.ptr 1 0 0), (.ptr 3 0 0)]))] (hp [.row 0 24 1 0 (some 1) [.nils], .row 0 9 1 0 (some 1) [(.str (s))], .row 0 9 1 0 (some 1) [(.str [10])], .row 0 3 1 0 (some 1) [(.int .i64 0)]]) [] (by kernel_rfl) rfl .nil ?_
  refine Wl.done 4 rfl ?_
  refine Wc.ret ?_
  refine retX.mk (.func (.func 45) [] [(.ptr 2 0 0), (.ptr 1 0 0), (.ptr 3 0 0)]) ⟨rfl, rfl⟩ (by kernel_rfl) ?_
  refine cNext.mk [0, 2, 3, 6] [(0, (.str (s))), (2, .nils), (3, (.ptr 0 0 0)), (6, (.func (.func 45) [] [(.ptr 2 0 0), (.ptr 1 0 0), (.ptr 3 0 0)]))] (by kernel_rfl) ?_
  refine Wl.done 2 rfl ?_
  refine Wc.block ?_
  refine Wc.range (b := (base 11 13)) (g := 45) (args := [(.func (.yield 5) [] []), (.ptr 2 0 0), (.ptr 1 0 0), (.ptr 3 0 0)]) rfl rfl (by kernel_rfl) (by kernel_rfl) (fun tm1 hT2 => ?_)
  refine Ev.body (fn := Go.Proofs.Tryd.f45) Go.Proofs.Tryd.func45 rfl (by kernel_rfl) ?_
  refine Wc.seq ?_
  refine Wc.seq ?_
  refine Wc.whole (b := (base 45 52)) [0, 1, 2, 3, 11] [(0, (.func (.yield 5) [] [])), (1, (.ptr 2 0 0)), (2, (.ptr 1 0 0)), (3, (.ptr 3 0 0)), (11, (.bool false))] (hp [.row 0 24 1 0 (some 1) [.nils], .row 0 9 1 0 (some 1) [(.str (s))], .row 0 9 1 0 (some 1) [(.str [10])], .row 0 3 1 0 (some 1) [(.int .i64 0)], .defs, .loop .ready none 11 13 tm1 [7] (rAs Tryd.prog 11 0) (rBd Tryd.prog 11 0) 4]) [] (by kernel_rfl) .nil ?_
  refine Wc.condF (by kernel_rfl) (by kernel_rfl) ?_
  refine Wc.skip ?_
  refine Wc.seq ?_
  refine Wc.block ?_
  refine Wc.loop (α := Option (List (List UInt8) × List UInt8)) (fun a => (base 45 52).on [(0, (.func (.yield 5) [] [])), (1, (.ptr 2 0 0)), (2, (.ptr 1 0 0)), (3, (.ptr 3 0 0))])
    (fun a => match a with
      | none => (hp [.row 0 24 1 0 (some 1) [.nils], .row 0 9 1 0 (some 1) [(.str (s))], .row 0 9 1 0 (some 1) [(.str [10])], .row 0 3 1 0 (some 1) [(.int .i64 0)], .defs, .loop .ready none 11 13 tm1 [7] (rAs Tryd.prog 11 0) (rBd Tryd.prog 11 0) 4])
      | some (d, r) => (hp [.row 0 24 1 0 (some 1) [.sl 6 (d.length - 1) 0 d.length none], .row 0 9 1 0 (some 1) [(.str r)], .row 0 9 1 0 (some 1) [(.str [10])], .row 0 3 1 0 (some 1) [(.int .i64 0)], .defs, .loop .ready none 11 13 tm1 [7] (rAs Tryd.prog 11 0) (rBd Tryd.prog 11 0) 4, .row (d.length - 1) 9 1 0 none (d.map .str)]))
    (fun a => match a with
      | none => True
      | some (d, r) => d ≠ [] ∧ linesOf s = d ++ linesOf r ∧ r.length + d.length ≤ s.length)
    (fun a => match a with
      | none => s.length + 1
      | some (d, r) => r.length) none (Le.on [0, 1, 2, 3] (by kernel_rfl)) (by kernel_rfl) trivial ?_
  rintro (_ | ⟨d, r⟩) hI
  · simp only at hI ⊢
    have hf := find_le s
    refine Wc.block ?_
    refine Wc.seq ?_
    refine Wc.enter ?_
    refine Wl.batch (b := (base 45 52)) 0 2 [0, 1, 2, 3, 29, 30] [(0, (.func (.yield 5) [] [])), (1, (.ptr 2 0 0)), (2, (.ptr 1 0 0)), (3, (.ptr 3 0 0)), (29, (.str (s))), (30, (.str [10]))] (hp [.row 0 24 1 0 (some 1) [.nils], .row 0 9 1 0 (some 1) [(.str (s))], .row 0 9 1 0 (some 1) [(.str [10])], .row 0 3 1 0 (some 1) [(.int .i64 0)], .defs, .loop .ready none 11 13 tm1 [7] (rAs Tryd.prog 11 0) (rBd Tryd.prog 11 0) 4]) [] (by kernel_rfl) rfl .nil ?_
    refine Wl.callP (b := (base 45 52)) (h1 := (hp [.row 0 24 1 0 (some 1) [.nils], .row 0 9 1 0 (some 1) [(.str (s))], .row 0 9 1 0 (some 1) [(.str [10])], .row 0 3 1 0 (some 1) [(.int .i64 0)], .defs, .loop .ready none 11 13 tm1 [7] (rAs Tryd.prog 11 0) (rBd Tryd.prog 11 0) 4])) (h2 := (hp [.row 0 24 1 0 (some 1) [.nils], .row 0 9 1 0 (some 1) [(.str (s))], .row 0 9 1 0 (some 1) [(.str [10])], .row 0 3 1 0 (some 1) [(.int .i64 0)], .defs, .loop .ready none 11 13 tm1 [7] (rAs Tryd.prog 11 0) (rBd Tryd.prog 11 0) 4])) (v := (.int .i64 (findByte 10 s 0))) (d := (some 31)) 2 [0, 1, 2, 3, 31] [(0, (.func (.yield 5) [] [])), (1, (.ptr 2 0 0)), (2, (.ptr 1 0 0)), (3, (.ptr 3 0 0)), (31, (.int .i64 (findByte 10 s 0)))] (@Go.AM.c29 (s)) (by kernel_rfl) (by kernel_rfl) (by kernel_rfl) ?_
    refine Wl.batch (b := (base 45 52)) 3 4 [0, 1, 2, 3, 7] [(0, (.func (.yield 5) [] [])), (1, (.ptr 2 0 0)), (2, (.ptr 1 0 0)), (3, (.ptr 3 0 0)), (7, (.int .i64 (findByte 10 s 0)))] (hp [.row 0 24 1 0 (some 1) [.nils], .row 0 9 1 0 (some 1) [(.str (s))], .row 0 9 1 0 (some 1) [(.str [10])], .row 0 3 1 0 (some 1) [(.int .i64 0)], .defs, .loop .ready none 11 13 tm1 [7] (rAs Tryd.prog 11 0) (rBd Tryd.prog 11 0) 4]) [] (by kernel_rfl) rfl .nil ?_
    refine Wl.done 4 rfl ?_
    refine Wc.seq ?_
    refine Wc.seq ?_
    refine Wc.whole (b := (base 45 52)) [0, 1, 2, 3, 7, 33] [(0, (.func (.yield 5) [] [])), (1, (.ptr 2 0 0)), (2, (.ptr 1 0 0)), (3, (.ptr 3 0 0)), (7, (.int .i64 (findByte 10 s 0))), (33, (.bool (decide (findByte 10 s 0 < 0))))] (hp [.row 0 24 1 0 (some 1) [.nils], .row 0 9 1 0 (some 1) [(.str (s))], .row 0 9 1 0 (some 1) [(.str [10])], .row 0 3 1 0 (some 1) [(.int .i64 0)], .defs, .loop .ready none 11 13 tm1 [7] (rAs Tryd.prog 11 0) (rBd Tryd.prog 11 0) 4]) [] (by kernel_rfl) .nil ?_
    refine Wc.condP (p := findByte 10 s 0 < 0) (by kernel_rfl) (by kernel_rfl) (fun c1 => ?_) (fun c1 => ?_)
    · refine Wc.exit ?_
      refine blockX.out rfl ?_
      refine blockX.here ?_
      refine Wc.enter ?_
      refine Wl.batch (b := (base 45 52)) 0 2 [0, 1, 2, 3, 7, 33, 49, 50] [(0, (.func (.yield 5) [] [])), (1, (.ptr 2 0 0)), (2, (.ptr 1 0 0)), (3, (.ptr 3 0 0)), (7, (.int .i64 (findByte 10 s 0))), (33, (.bool (decide (findByte 10 s 0 < 0)))), (49, (.func (.yield 5) [] [])), (50, (.str (s)))] (hp [.row 0 24 1 0 (some 1) [.nils], .row 0 9 1 0 (some 1) [(.str (s))], .row 0 9 1 0 (some 1) [(.str [10])], .row 0 3 1 0 (some 1) [(.int .i64 0)], .defs, .loop .ready none 11 13 tm1 [7] (rAs Tryd.prog 11 0) (rBd Tryd.prog 11 0) 4]) [] (by kernel_rfl) rfl .nil ?_
      refine Wl.yield (b := (base 45 52)) (h1 := (hp [.row 0 24 1 0 (some 1) [.nils], .row 0 9 1 0 (some 1) [(.str (s))], .row 0 9 1 0 (some 1) [(.str [10])], .row 0 3 1 0 (some 1) [(.int .i64 0)], .defs, .loop .ready none 11 13 tm1 [7] (rAs Tryd.prog 11 0) (rBd Tryd.prog 11 0) 4])) (l := 5) (args := [(.str (s))]) (d := (some 51)) (st := .ready) (pd0 := none) (fn := 11) (n := 13) (tm := tm1) (ps := [7]) (ag := (rAs Tryd.prog 11 0)) (bd := (rBd Tryd.prog 11 0)) (dd := 4) 2 [0, 2, 3, 6, 7] [(0, (.str (s))), (2, .nils), (3, (.ptr 0 0 0)), (6, (.func (.func 45) [] [(.ptr 2 0 0), (.ptr 1 0 0), (.ptr 3 0 0)])), (7, (.str (s)))] hT2 (by kernel_rfl) (by kernel_rfl) (by kernel_rfl) ?_
      refine Wc.whole (b := (roundB 11 13 5)) [0, 2, 3, 4, 6, 7] [(0, (.str (s))), (2, .nils), (3, (.ptr 0 0 0)), (4, (.str (s))), (6, (.func (.func 45) [] [(.ptr 2 0 0), (.ptr 1 0 0), (.ptr 3 0 0)])), (7, (.str (s)))] (hp [.row 0 24 1 0 (some 1) [.nils], .row 0 9 1 0 (some 1) [(.str (s))], .row 0 9 1 0 (some 1) [(.str [10])], .row 0 3 1 0 (some 1) [(.int .i64 0)], .defs, .loop .ready none 11 13 tm1 [7] (rAs Tryd.prog 11 0) (rBd Tryd.prog 11 0) 4]) [] (by kernel_rfl) .nil ?_
      refine yBody.mk none (by kernel_rfl) ?_
      refine Wc.block ?_
      refine Wc.whole (b := (roundB 11 13 5)) [0, 2, 3, 4, 6, 7] [(0, (.str (s))), (2, .nils), (3, (.ptr 0 0 0)), (4, (.str (s))), (6, (.func (.func 45) [] [(.ptr 2 0 0), (.ptr 1 0 0), (.ptr 3 0 0)])), (7, (.str (s)))] (hp [.row 0 24 1 0 (some 1) [(.sl 6 0 0 1 none)], .row 0 9 1 0 (some 1) [(.str (s))], .row 0 9 1 0 (some 1) [(.str [10])], .row 0 3 1 0 (some 1) [(.int .i64 0)], .defs, .loop .busy none 11 13 tm1 [7] (rAs Tryd.prog 11 0) (rBd Tryd.prog 11 0) 4, .row 0 9 1 0 none [(.str (s))]]) [(([V.str s] ≠ []) ∧ ((List.length [V.str s] ≤ (1099511627776 : Nat)) ∧ (List.length [V.str s] * (16 : Nat) ≤ (1099511627776 : Nat))))] (by kernel_rfl) (.cons (by simp) .nil) ?_
      refine yEnd.mk none (by kernel_rfl) ?_
      refine yNext.mk [0, 1, 2, 3, 7, 33] [(0, (.func (.yield 5) [] [])), (1, (.ptr 2 0 0)), (2, (.ptr 1 0 0)), (3, (.ptr 3 0 0)), (7, (.int .i64 (findByte 10 s 0))), (33, (.bool (decide (findByte 10 s 0 < 0))))] (by kernel_rfl) ?_
      refine Wl.done 3 rfl ?_
      refine retX.mk (.tup []) ⟨rfl, rfl⟩ (by kernel_rfl) ?_
      refine rEnd.mk .ready tm1 (by kernel_rfl) (fun e => by cases e) ?_
      refine Wc.seq ?_
      refine Wc.whole (b := ({ base 11 13 with marks := [4] })) [0, 2, 3, 6] [(0, (.str (s))), (2, (.sl 6 0 0 1 none)), (3, (.ptr 0 0 0)), (6, (.func (.func 45) [] [(.ptr 2 0 0), (.ptr 1 0 0), (.ptr 3 0 0)]))] (hp [.row 0 24 1 0 (some 1) [(.sl 6 0 0 1 none)], .row 0 9 1 0 (some 1) [(.str (s))], .row 0 9 1 0 (some 1) [(.str [10])], .row 0 3 1 0 (some 1) [(.int .i64 0)], .defs, .loop .exhausted none 11 13 tm1 [7] (rAs Tryd.prog 11 0) (rBd Tryd.prog 11 0) 4, .row 0 9 1 0 none [(.str (s))]]) [] (by kernel_rfl) .nil ?_
      refine Wc.ret ?_
      refine retX.marks (hp [.row 0 24 1 0 (some 1) [(.sl 6 0 0 1 none)], .row 0 9 1 0 (some 1) [(.str (s))], .row 0 9 1 0 (some 1) [(.str [10])], .row 0 3 1 0 (some 1) [(.int .i64 0)], .dead, .loop .exhausted none 11 13 tm1 [7] (rAs Tryd.prog 11 0) (rBd Tryd.prog 11 0) 4, .row 0 9 1 0 none [(.str (s))]]) (.sl 6 0 0 1 none) rfl (by kernel_rfl) (by kernel_rfl) ?_
      rw [lines_end s (by assumption)]; rfl
    · refine Wc.skip ?_
      refine Wc.seq ?_
      refine Wc.whole (b := (base 45 52)) [0, 1, 2, 3, 7, 8, 33] [(0, (.func (.yield 5) [] [])), (1, (.ptr 2 0 0)), (2, (.ptr 1 0 0)), (3, (.ptr 3 0 0)), (7, (.int .i64 (findByte 10 s 0))), (8, (.str (List.take (Int.toNat (findByte 10 s 0 + 0)) s))), (33, (.bool (decide (findByte 10 s 0 < 0))))] (hp [.row 0 24 1 0 (some 1) [.nils], .row 0 9 1 0 (some 1) [(.str (s))], .row 0 9 1 0 (some 1) [(.str [10])], .row 0 3 1 0 (some 1) [(.int .i64 0)], .defs, .loop .ready none 11 13 tm1 [7] (rAs Tryd.prog 11 0) (rBd Tryd.prog 11 0) 4]) [(((-9223372036854775808 : Int) ≤ findByte (10 : UInt8) s (0 : Nat) + (0 : Int)) ∧ (findByte (10 : UInt8) s (0 : Nat) + (0 : Int) ≤ (9223372036854775807 : Int))), (((0 : Int) ≤ findByte (10 : UInt8) s (0 : Nat) + (0 : Int)) ∧ (findByte (10 : UInt8) s (0 : Nat) + (0 : Int) ≤ (↑(List.length s) : Int)))] (by kernel_rfl) (.cons (by omega) (.cons (by omega) .nil)) ?_
      refine Wc.seq ?_
      refine Wc.seq ?_
      refine Wc.enter ?_
      refine Wl.batch (b := (base 45 52)) 0 2 [0, 1, 2, 3, 7, 8, 33, 39, 40] [(0, (.func (.yield 5) [] [])), (1, (.ptr 2 0 0)), (2, (.ptr 1 0 0)), (3, (.ptr 3 0 0)), (7, (.int .i64 (findByte 10 s 0))), (8, (.str (List.take (Int.toNat (findByte 10 s 0 + 0)) s))), (33, (.bool (decide (findByte 10 s 0 < 0)))), (39, (.func (.yield 5) [] [])), (40, (.str (List.take (Int.toNat (findByte 10 s 0 + 0)) s)))] (hp [.row 0 24 1 0 (some 1) [.nils], .row 0 9 1 0 (some 1) [(.str (s))], .row 0 9 1 0 (some 1) [(.str [10])], .row 0 3 1 0 (some 1) [(.int .i64 0)], .defs, .loop .ready none 11 13 tm1 [7] (rAs Tryd.prog 11 0) (rBd Tryd.prog 11 0) 4]) [] (by kernel_rfl) rfl .nil ?_
      refine Wl.yield (b := (base 45 52)) (h1 := (hp [.row 0 24 1 0 (some 1) [.nils], .row 0 9 1 0 (some 1) [(.str (s))], .row 0 9 1 0 (some 1) [(.str [10])], .row 0 3 1 0 (some 1) [(.int .i64 0)], .defs, .loop .ready none 11 13 tm1 [7] (rAs Tryd.prog 11 0) (rBd Tryd.prog 11 0) 4])) (l := 5) (args := [(.str (List.take (Int.toNat (findByte 10 s 0 + 0)) s))]) (d := (some 41)) (st := .ready) (pd0 := none) (fn := 11) (n := 13) (tm := tm1) (ps := [7]) (ag := (rAs Tryd.prog 11 0)) (bd := (rBd Tryd.prog 11 0)) (dd := 4) 2 [0, 2, 3, 6, 7] [(0, (.str (s))), (2, .nils), (3, (.ptr 0 0 0)), (6, (.func (.func 45) [] [(.ptr 2 0 0), (.ptr 1 0 0), (.ptr 3 0 0)])), (7, (.str (List.take (Int.toNat (findByte 10 s 0 + 0)) s)))] hT2 (by kernel_rfl) (by kernel_rfl) (by kernel_rfl) ?_
      refine Wc.whole (b := (roundB 11 13 5)) [0, 2, 3, 4, 6, 7] [(0, (.str (s))), (2, .nils), (3, (.ptr 0 0 0)), (4, (.str (List.take (Int.toNat (findByte 10 s 0 + 0)) s))), (6, (.func (.func 45) [] [(.ptr 2 0 0), (.ptr 1 0 0), (.ptr 3 0 0)])), (7, (.str (List.take (Int.toNat (findByte 10 s 0 + 0)) s)))] (hp [.row 0 24 1 0 (some 1) [.nils], .row 0 9 1 0 (some 1) [(.str (s))], .row 0 9 1 0 (some 1) [(.str [10])], .row 0 3 1 0 (some 1) [(.int .i64 0)], .defs, .loop .ready none 11 13 tm1 [7] (rAs Tryd.prog 11 0) (rBd Tryd.prog 11 0) 4]) [] (by kernel_rfl) .nil ?_
      refine yBody.mk none (by kernel_rfl) ?_
      refine Wc.block ?_
      refine Wc.whole (b := (roundB 11 13 5)) [0, 2, 3, 4, 6, 7] [(0, (.str (s))), (2, .nils), (3, (.ptr 0 0 0)), (4, (.str (List.take (Int.toNat (findByte 10 s 0 + 0)) s))), (6, (.func (.func 45) [] [(.ptr 2 0 0), (.ptr 1 0 0), (.ptr 3 0 0)])), (7, (.str (List.take (Int.toNat (findByte 10 s 0 + 0)) s)))] (hp [.row 0 24 1 0 (some 1) [(.sl 6 0 0 1 none)], .row 0 9 1 0 (some 1) [(.str (s))], .row 0 9 1 0 (some 1) [(.str [10])], .row 0 3 1 0 (some 1) [(.int .i64 0)], .defs, .loop .busy none 11 13 tm1 [7] (rAs Tryd.prog 11 0) (rBd Tryd.prog 11 0) 4, .row 0 9 1 0 none [(.str (List.take (Int.toNat (findByte 10 s 0 + 0)) s))]]) [(([V.str (List.take (Int.toNat (findByte (10 : UInt8) s (0 : Nat) + (0 : Int))) s)] ≠ []) ∧ ((List.length [V.str (List.take (Int.toNat (findByte (10 : UInt8) s (0 : Nat) + (0 : Int))) s)] ≤ (1099511627776 : Nat)) ∧ (List.length [V.str (List.take (Int.toNat (findByte (10 : UInt8) s (0 : Nat) + (0 : Int))) s)] * (16 : Nat) ≤ (1099511627776 : Nat))))] (by kernel_rfl) (.cons (by simp) .nil) ?_
      refine yEnd.mk none (by kernel_rfl) ?_
      refine yNext.mk [0, 1, 2, 3, 7, 8, 33, 41] [(0, (.func (.yield 5) [] [])), (1, (.ptr 2 0 0)), (2, (.ptr 1 0 0)), (3, (.ptr 3 0 0)), (7, (.int .i64 (findByte 10 s 0))), (8, (.str (List.take (Int.toNat (findByte 10 s 0 + 0)) s))), (33, (.bool (decide (findByte 10 s 0 < 0)))), (41, (.bool true))] (by kernel_rfl) ?_
      refine Wl.batch (b := (base 45 52)) 3 4 [0, 1, 2, 3, 7, 8, 33, 42] [(0, (.func (.yield 5) [] [])), (1, (.ptr 2 0 0)), (2, (.ptr 1 0 0)), (3, (.ptr 3 0 0)), (7, (.int .i64 (findByte 10 s 0))), (8, (.str (List.take (Int.toNat (findByte 10 s 0 + 0)) s))), (33, (.bool (decide (findByte 10 s 0 < 0)))), (42, (.bool false))] (hp [.row 0 24 1 0 (some 1) [(.sl 6 0 0 1 none)], .row 0 9 1 0 (some 1) [(.str (s))], .row 0 9 1 0 (some 1) [(.str [10])], .row 0 3 1 0 (some 1) [(.int .i64 0)], .defs, .loop .ready none 11 13 tm1 [7] (rAs Tryd.prog 11 0) (rBd Tryd.prog 11 0) 4, .row 0 9 1 0 none [(.str (List.take (Int.toNat (findByte 10 s 0 + 0)) s))]]) [] (by kernel_rfl) rfl .nil ?_
      refine Wl.done 4 rfl ?_
      refine Wc.condF (by kernel_rfl) (by kernel_rfl) ?_
      refine Wc.skip ?_
      refine Wc.whole (b := (base 45 52)) [0, 1, 2, 3, 7, 8, 33, 42] [(0, (.func (.yield 5) [] [])), (1, (.ptr 2 0 0)), (2, (.ptr 1 0 0)), (3, (.ptr 3 0 0)), (7, (.int .i64 (findByte 10 s 0))), (8, (.str (List.take (Int.toNat (findByte 10 s 0 + 0)) s))), (33, (.bool (decide (findByte 10 s 0 < 0)))), (42, (.bool false))] (hp [.row 0 24 1 0 (some 1) [(.sl 6 0 0 1 none)], .row 0 9 1 0 (some 1) [(.str (List.drop (Int.toNat (findByte 10 s 0 + 1)) s))], .row 0 9 1 0 (some 1) [(.str [10])], .row 0 3 1 0 (some 1) [(.int .i64 0)], .defs, .loop .ready none 11 13 tm1 [7] (rAs Tryd.prog 11 0) (rBd Tryd.prog 11 0) 4, .row 0 9 1 0 none [(.str (List.take (Int.toNat (findByte 10 s 0 + 0)) s))]]) [(((-9223372036854775808 : Int) ≤ findByte (10 : UInt8) s (0 : Nat) + (1 : Int)) ∧ (findByte (10 : UInt8) s (0 : Nat) + (1 : Int) ≤ (9223372036854775807 : Int))), (((0 : Int) ≤ findByte (10 : UInt8) s (0 : Nat) + (1 : Int)) ∧ (findByte (10 : UInt8) s (0 : Nat) + (1 : Int) ≤ (↑(List.length s) : Int)))] (by kernel_rfl) (.cons (by omega) (.cons (by omega) .nil)) ?_
      have hn := lines_next s (by assumption)
      exact ⟨some ([s.take (findByte 10 s 0 + 0).toNat], s.drop (findByte 10 s 0 + 1).toNat), Le.on [0, 1, 2, 3] (by kernel_rfl), by kernel_rfl, ⟨by simp, hn, by simp; omega⟩, by simp; omega⟩
  · simp only at hI ⊢
    obtain ⟨hd, hl, hr⟩ := hI
    have hf := find_le r
    have hd1 : 0 < d.length := List.length_pos_iff.2 hd
    refine Wc.block ?_
    refine Wc.seq ?_
    refine Wc.enter ?_
    refine Wl.batch (b := (base 45 52)) 0 2 [0, 1, 2, 3, 29, 30] [(0, (.func (.yield 5) [] [])), (1, (.ptr 2 0 0)), (2, (.ptr 1 0 0)), (3, (.ptr 3 0 0)), (29, (.str (r))), (30, (.str [10]))] (hp [.row 0 24 1 0 (some 1) [(.sl 6 (List.length d - 1) 0 (List.length d) none)], .row 0 9 1 0 (some 1) [(.str (r))], .row 0 9 1 0 (some 1) [(.str [10])], .row 0 3 1 0 (some 1) [(.int .i64 0)], .defs, .loop .ready none 11 13 tm1 [7] (rAs Tryd.prog 11 0) (rBd Tryd.prog 11 0) 4, .row (List.length d - 1) 9 1 0 none (List.map V.str d)]) [] (by kernel_rfl) rfl .nil ?_
    refine Wl.callP (b := (base 45 52)) (h1 := (hp [.row 0 24 1 0 (some 1) [(.sl 6 (List.length d - 1) 0 (List.length d) none)], .row 0 9 1 0 (some 1) [(.str (r))], .row 0 9 1 0 (some 1) [(.str [10])], .row 0 3 1 0 (some 1) [(.int .i64 0)], .defs, .loop .ready none 11 13 tm1 [7] (rAs Tryd.prog 11 0) (rBd Tryd.prog 11 0) 4, .row (List.length d - 1) 9 1 0 none (List.map V.str d)])) (h2 := (hp [.row 0 24 1 0 (some 1) [(.sl 6 (List.length d - 1) 0 (List.length d) none)], .row 0 9 1 0 (some 1) [(.str (r))], .row 0 9 1 0 (some 1) [(.str [10])], .row 0 3 1 0 (some 1) [(.int .i64 0)], .defs, .loop .ready none 11 13 tm1 [7] (rAs Tryd.prog 11 0) (rBd Tryd.prog 11 0) 4, .row (List.length d - 1) 9 1 0 none (List.map V.str d)])) (v := (.int .i64 (findByte 10 r 0))) (d := (some 31)) 2 [0, 1, 2, 3, 31] [(0, (.func (.yield 5) [] [])), (1, (.ptr 2 0 0)), (2, (.ptr 1 0 0)), (3, (.ptr 3 0 0)), (31, (.int .i64 (findByte 10 r 0)))] (@Go.AM.c29 (r)) (by kernel_rfl) (by kernel_rfl) (by kernel_rfl) ?_
    refine Wl.batch (b := (base 45 52)) 3 4 [0, 1, 2, 3, 7] [(0, (.func (.yield 5) [] [])), (1, (.ptr 2 0 0)), (2, (.ptr 1 0 0)), (3, (.ptr 3 0 0)), (7, (.int .i64 (findByte 10 r 0)))] (hp [.row 0 24 1 0 (some 1) [(.sl 6 (List.length d - 1) 0 (List.length d) none)], .row 0 9 1 0 (some 1) [(.str (r))], .row 0 9 1 0 (some 1) [(.str [10])], .row 0 3 1 0 (some 1) [(.int .i64 0)], .defs, .loop .ready none 11 13 tm1 [7] (rAs Tryd.prog 11 0) (rBd Tryd.prog 11 0) 4, .row (List.length d - 1) 9 1 0 none (List.map V.str d)]) [] (by kernel_rfl) rfl .nil ?_
    refine Wl.done 4 rfl ?_
    refine Wc.seq ?_
    refine Wc.seq ?_
    refine Wc.whole (b := (base 45 52)) [0, 1, 2, 3, 7, 33] [(0, (.func (.yield 5) [] [])), (1, (.ptr 2 0 0)), (2, (.ptr 1 0 0)), (3, (.ptr 3 0 0)), (7, (.int .i64 (findByte 10 r 0))), (33, (.bool (decide (findByte 10 r 0 < 0))))] (hp [.row 0 24 1 0 (some 1) [(.sl 6 (List.length d - 1) 0 (List.length d) none)], .row 0 9 1 0 (some 1) [(.str (r))], .row 0 9 1 0 (some 1) [(.str [10])], .row 0 3 1 0 (some 1) [(.int .i64 0)], .defs, .loop .ready none 11 13 tm1 [7] (rAs Tryd.prog 11 0) (rBd Tryd.prog 11 0) 4, .row (List.length d - 1) 9 1 0 none (List.map V.str d)]) [] (by kernel_rfl) .nil ?_
    refine Wc.condP (p := findByte 10 r 0 < 0) (by kernel_rfl) (by kernel_rfl) (fun c1 => ?_) (fun c1 => ?_)
    · refine Wc.exit ?_
      refine blockX.out rfl ?_
      refine blockX.here ?_
      refine Wc.enter ?_
      refine Wl.batch (b := (base 45 52)) 0 2 [0, 1, 2, 3, 7, 33, 49, 50] [(0, (.func (.yield 5) [] [])), (1, (.ptr 2 0 0)), (2, (.ptr 1 0 0)), (3, (.ptr 3 0 0)), (7, (.int .i64 (findByte 10 r 0))), (33, (.bool (decide (findByte 10 r 0 < 0)))), (49, (.func (.yield 5) [] [])), (50, (.str (r)))] (hp [.row 0 24 1 0 (some 1) [(.sl 6 (List.length d - 1) 0 (List.length d) none)], .row 0 9 1 0 (some 1) [(.str (r))], .row 0 9 1 0 (some 1) [(.str [10])], .row 0 3 1 0 (some 1) [(.int .i64 0)], .defs, .loop .ready none 11 13 tm1 [7] (rAs Tryd.prog 11 0) (rBd Tryd.prog 11 0) 4, .row (List.length d - 1) 9 1 0 none (List.map V.str d)]) [] (by kernel_rfl) rfl .nil ?_
      refine Wl.yield (b := (base 45 52)) (h1 := (hp [.row 0 24 1 0 (some 1) [(.sl 6 (List.length d - 1) 0 (List.length d) none)], .row 0 9 1 0 (some 1) [(.str (r))], .row 0 9 1 0 (some 1) [(.str [10])], .row 0 3 1 0 (some 1) [(.int .i64 0)], .defs, .loop .ready none 11 13 tm1 [7] (rAs Tryd.prog 11 0) (rBd Tryd.prog 11 0) 4, .row (List.length d - 1) 9 1 0 none (List.map V.str d)])) (l := 5) (args := [(.str (r))]) (d := (some 51)) (st := .ready) (pd0 := none) (fn := 11) (n := 13) (tm := tm1) (ps := [7]) (ag := (rAs Tryd.prog 11 0)) (bd := (rBd Tryd.prog 11 0)) (dd := 4) 2 [0, 2, 3, 6, 7] [(0, (.str (s))), (2, .nils), (3, (.ptr 0 0 0)), (6, (.func (.func 45) [] [(.ptr 2 0 0), (.ptr 1 0 0), (.ptr 3 0 0)])), (7, (.str (r)))] hT2 (by kernel_rfl) (by kernel_rfl) (by kernel_rfl) ?_
      refine Wc.whole (b := (roundB 11 13 5)) [0, 2, 3, 4, 6, 7] [(0, (.str (s))), (2, .nils), (3, (.ptr 0 0 0)), (4, (.str (r))), (6, (.func (.func 45) [] [(.ptr 2 0 0), (.ptr 1 0 0), (.ptr 3 0 0)])), (7, (.str (r)))] (hp [.row 0 24 1 0 (some 1) [(.sl 6 (List.length d - 1) 0 (List.length d) none)], .row 0 9 1 0 (some 1) [(.str (r))], .row 0 9 1 0 (some 1) [(.str [10])], .row 0 3 1 0 (some 1) [(.int .i64 0)], .defs, .loop .ready none 11 13 tm1 [7] (rAs Tryd.prog 11 0) (rBd Tryd.prog 11 0) 4, .row (List.length d - 1) 9 1 0 none (List.map V.str d)]) [] (by kernel_rfl) .nil ?_
      refine yBody.mk none (by kernel_rfl) ?_
      refine Wc.block ?_
      refine Wc.whole (b := (roundB 11 13 5)) [0, 2, 3, 4, 6, 7] [(0, (.str (s))), (2, .nils), (3, (.ptr 0 0 0)), (4, (.str (r))), (6, (.func (.func 45) [] [(.ptr 2 0 0), (.ptr 1 0 0), (.ptr 3 0 0)])), (7, (.str (r)))] (hp [.row 0 24 1 0 (some 1) [(.sl 6 (Nat.succ (List.length d - 1)) 0 (List.length d + List.length [V.str r]) none)], .row 0 9 1 0 (some 1) [(.str (r))], .row 0 9 1 0 (some 1) [(.str [10])], .row 0 3 1 0 (some 1) [(.int .i64 0)], .defs, .loop .busy none 11 13 tm1 [7] (rAs Tryd.prog 11 0) (rBd Tryd.prog 11 0) 4, .row (Nat.succ (List.length d - 1)) 9 1 0 none (List.map V.str d ++ [V.str r])]) [((List.length d - (1 : Nat) = List.length d - (1 : Nat)) ∧ (([V.str r] ≠ []) ∧ ((List.length d = List.length (List.map V.str d)) ∧ (((0 : Nat) ≤ List.length d) ∧ ((List.length d + List.length [V.str r] ≤ (1099511627776 : Nat)) ∧ ((List.length d + List.length [V.str r]) * (16 : Nat) ≤ (1099511627776 : Nat)))))))] (by kernel_rfl) (.cons (by (simp; omega)) .nil) ?_
      refine yEnd.mk none (by kernel_rfl) ?_
      refine yNext.mk [0, 1, 2, 3, 7, 33] [(0, (.func (.yield 5) [] [])), (1, (.ptr 2 0 0)), (2, (.ptr 1 0 0)), (3, (.ptr 3 0 0)), (7, (.int .i64 (findByte 10 r 0))), (33, (.bool (decide (findByte 10 r 0 < 0))))] (by kernel_rfl) ?_
      refine Wl.done 3 rfl ?_
      refine retX.mk (.tup []) ⟨rfl, rfl⟩ (by kernel_rfl) ?_
      refine rEnd.mk .ready tm1 (by kernel_rfl) (fun e => by cases e) ?_
      refine Wc.seq ?_
      refine Wc.whole (b := ({ base 11 13 with marks := [4] })) [0, 2, 3, 6] [(0, (.str (s))), (2, (.sl 6 (Nat.succ (List.length d - 1)) 0 (List.length d + List.length [V.str r]) none)), (3, (.ptr 0 0 0)), (6, (.func (.func 45) [] [(.ptr 2 0 0), (.ptr 1 0 0), (.ptr 3 0 0)]))] (hp [.row 0 24 1 0 (some 1) [(.sl 6 (Nat.succ (List.length d - 1)) 0 (List.length d + List.length [V.str r]) none)], .row 0 9 1 0 (some 1) [(.str (r))], .row 0 9 1 0 (some 1) [(.str [10])], .row 0 3 1 0 (some 1) [(.int .i64 0)], .defs, .loop .exhausted none 11 13 tm1 [7] (rAs Tryd.prog 11 0) (rBd Tryd.prog 11 0) 4, .row (Nat.succ (List.length d - 1)) 9 1 0 none (List.map V.str d ++ [V.str r])]) [] (by kernel_rfl) .nil ?_
      refine Wc.ret ?_
      refine retX.marks (hp [.row 0 24 1 0 (some 1) [(.sl 6 (Nat.succ (List.length d - 1)) 0 (List.length d + List.length [V.str r]) none)], .row 0 9 1 0 (some 1) [(.str (r))], .row 0 9 1 0 (some 1) [(.str [10])], .row 0 3 1 0 (some 1) [(.int .i64 0)], .dead, .loop .exhausted none 11 13 tm1 [7] (rAs Tryd.prog 11 0) (rBd Tryd.prog 11 0) 4, .row (Nat.succ (List.length d - 1)) 9 1 0 none (List.map V.str d ++ [V.str r])]) (.sl 6 (Nat.succ (List.length d - 1)) 0 (List.length d + List.length [V.str r]) none) rfl (by kernel_rfl) (by kernel_rfl) ?_
      have e : (d ++ [r]).map V.str = d.map V.str ++ [V.str r] := by simp
      rw [hl, lines_end r (by assumption)]
      exact retAll_row (f := V.str) (fun _ _ _ => rfl) (l := d ++ [r]) (by kernel_rfl) e.symm (by simp)
    · refine Wc.skip ?_
      refine Wc.seq ?_
      refine Wc.whole (b := (base 45 52)) [0, 1, 2, 3, 7, 8, 33] [(0, (.func (.yield 5) [] [])), (1, (.ptr 2 0 0)), (2, (.ptr 1 0 0)), (3, (.ptr 3 0 0)), (7, (.int .i64 (findByte 10 r 0))), (8, (.str (List.take (Int.toNat (findByte 10 r 0 + 0)) r))), (33, (.bool (decide (findByte 10 r 0 < 0))))] (hp [.row 0 24 1 0 (some 1) [(.sl 6 (List.length d - 1) 0 (List.length d) none)], .row 0 9 1 0 (some 1) [(.str (r))], .row 0 9 1 0 (some 1) [(.str [10])], .row 0 3 1 0 (some 1) [(.int .i64 0)], .defs, .loop .ready none 11 13 tm1 [7] (rAs Tryd.prog 11 0) (rBd Tryd.prog 11 0) 4, .row (List.length d - 1) 9 1 0 none (List.map V.str d)]) [(((-9223372036854775808 : Int) ≤ findByte (10 : UInt8) r (0 : Nat) + (0 : Int)) ∧ (findByte (10 : UInt8) r (0 : Nat) + (0 : Int) ≤ (9223372036854775807 : Int))), (((0 : Int) ≤ findByte (10 : UInt8) r (0 : Nat) + (0 : Int)) ∧ (findByte (10 : UInt8) r (0 : Nat) + (0 : Int) ≤ (↑(List.length r) : Int)))] (by kernel_rfl) (.cons (by omega) (.cons (by omega) .nil)) ?_
      refine Wc.seq ?_
      refine Wc.seq ?_
      refine Wc.enter ?_
      refine Wl.batch (b := (base 45 52)) 0 2 [0, 1, 2, 3, 7, 8, 33, 39, 40] [(0, (.func (.yield 5) [] [])), (1, (.ptr 2 0 0)), (2, (.ptr 1 0 0)), (3, (.ptr 3 0 0)), (7, (.int .i64 (findByte 10 r 0))), (8, (.str (List.take (Int.toNat (findByte 10 r 0 + 0)) r))), (33, (.bool (decide (findByte 10 r 0 < 0)))), (39, (.func (.yield 5) [] [])), (40, (.str (List.take (Int.toNat (findByte 10 r 0 + 0)) r)))] (hp [.row 0 24 1 0 (some 1) [(.sl 6 (List.length d - 1) 0 (List.length d) none)], .row 0 9 1 0 (some 1) [(.str (r))], .row 0 9 1 0 (some 1) [(.str [10])], .row 0 3 1 0 (some 1) [(.int .i64 0)], .defs, .loop .ready none 11 13 tm1 [7] (rAs Tryd.prog 11 0) (rBd Tryd.prog 11 0) 4, .row (List.length d - 1) 9 1 0 none (List.map V.str d)]) [] (by kernel_rfl) rfl .nil ?_
      refine Wl.yield (b := (base 45 52)) (h1 := (hp [.row 0 24 1 0 (some 1) [(.sl 6 (List.length d - 1) 0 (List.length d) none)], .row 0 9 1 0 (some 1) [(.str (r))], .row 0 9 1 0 (some 1) [(.str [10])], .row 0 3 1 0 (some 1) [(.int .i64 0)], .defs, .loop .ready none 11 13 tm1 [7] (rAs Tryd.prog 11 0) (rBd Tryd.prog 11 0) 4, .row (List.length d - 1) 9 1 0 none (List.map V.str d)])) (l := 5) (args := [(.str (List.take (Int.toNat (findByte 10 r 0 + 0)) r))]) (d := (some 41)) (st := .ready) (pd0 := none) (fn := 11) (n := 13) (tm := tm1) (ps := [7]) (ag := (rAs Tryd.prog 11 0)) (bd := (rBd Tryd.prog 11 0)) (dd := 4) 2 [0, 2, 3, 6, 7] [(0, (.str (s))), (2, .nils), (3, (.ptr 0 0 0)), (6, (.func (.func 45) [] [(.ptr 2 0 0), (.ptr 1 0 0), (.ptr 3 0 0)])), (7, (.str (List.take (Int.toNat (findByte 10 r 0 + 0)) r)))] hT2 (by kernel_rfl) (by kernel_rfl) (by kernel_rfl) ?_
      refine Wc.whole (b := (roundB 11 13 5)) [0, 2, 3, 4, 6, 7] [(0, (.str (s))), (2, .nils), (3, (.ptr 0 0 0)), (4, (.str (List.take (Int.toNat (findByte 10 r 0 + 0)) r))), (6, (.func (.func 45) [] [(.ptr 2 0 0), (.ptr 1 0 0), (.ptr 3 0 0)])), (7, (.str (List.take (Int.toNat (findByte 10 r 0 + 0)) r)))] (hp [.row 0 24 1 0 (some 1) [(.sl 6 (List.length d - 1) 0 (List.length d) none)], .row 0 9 1 0 (some 1) [(.str (r))], .row 0 9 1 0 (some 1) [(.str [10])], .row 0 3 1 0 (some 1) [(.int .i64 0)], .defs, .loop .ready none 11 13 tm1 [7] (rAs Tryd.prog 11 0) (rBd Tryd.prog 11 0) 4, .row (List.length d - 1) 9 1 0 none (List.map V.str d)]) [] (by kernel_rfl) .nil ?_
      refine yBody.mk none (by kernel_rfl) ?_
      refine Wc.block ?_
      refine Wc.whole (b := (roundB 11 13 5)) [0, 2, 3, 4, 6, 7] [(0, (.str (s))), (2, .nils), (3, (.ptr 0 0 0)), (4, (.str (List.take (Int.toNat (findByte 10 r 0 + 0)) r))), (6, (.func (.func 45) [] [(.ptr 2 0 0), (.ptr 1 0 0), (.ptr 3 0 0)])), (7, (.str (List.take (Int.toNat (findByte 10 r 0 + 0)) r)))] (hp [.row 0 24 1 0 (some 1) [(.sl 6 (Nat.succ (List.length d - 1)) 0 (List.length d + List.length [V.str (List.take (Int.toNat (findByte 10 r 0 + 0)) r)]) none)], .row 0 9 1 0 (some 1) [(.str (r))], .row 0 9 1 0 (some 1) [(.str [10])], .row 0 3 1 0 (some 1) [(.int .i64 0)], .defs, .loop .busy none 11 13 tm1 [7] (rAs Tryd.prog 11 0) (rBd Tryd.prog 11 0) 4, .row (Nat.succ (List.length d - 1)) 9 1 0 none (List.map V.str d ++ [V.str (List.take (Int.toNat (findByte 10 r 0 + 0)) r)])]) [((List.length d - (1 : Nat) = List.length d - (1 : Nat)) ∧ (([V.str (List.take (Int.toNat (findByte (10 : UInt8) r (0 : Nat) + (0 : Int))) r)] ≠ []) ∧ ((List.length d = List.length (List.map V.str d)) ∧ (((0 : Nat) ≤ List.length d) ∧ ((List.length d + List.length [V.str (List.take (Int.toNat (findByte (10 : UInt8) r (0 : Nat) + (0 : Int))) r)] ≤ (1099511627776 : Nat)) ∧ ((List.length d + List.length [V.str (List.take (Int.toNat (findByte (10 : UInt8) r (0 : Nat) + (0 : Int))) r)]) * (16 : Nat) ≤ (1099511627776 : Nat)))))))] (by kernel_rfl) (.cons (by (simp; omega)) .nil) ?_
      refine yEnd.mk none (by kernel_rfl) ?_
      refine yNext.mk [0, 1, 2, 3, 7, 8, 33, 41] [(0, (.func (.yield 5) [] [])), (1, (.ptr 2 0 0)), (2, (.ptr 1 0 0)), (3, (.ptr 3 0 0)), (7, (.int .i64 (findByte 10 r 0))), (8, (.str (List.take (Int.toNat (findByte 10 r 0 + 0)) r))), (33, (.bool (decide (findByte 10 r 0 < 0)))), (41, (.bool true))] (by kernel_rfl) ?_
      refine Wl.batch (b := (base 45 52)) 3 4 [0, 1, 2, 3, 7, 8, 33, 42] [(0, (.func (.yield 5) [] [])), (1, (.ptr 2 0 0)), (2, (.ptr 1 0 0)), (3, (.ptr 3 0 0)), (7, (.int .i64 (findByte 10 r 0))), (8, (.str (List.take (Int.toNat (findByte 10 r 0 + 0)) r))), (33, (.bool (decide (findByte 10 r 0 < 0)))), (42, (.bool false))] (hp [.row 0 24 1 0 (some 1) [(.sl 6 (Nat.succ (List.length d - 1)) 0 (List.length d + List.length [V.str (List.take (Int.toNat (findByte 10 r 0 + 0)) r)]) none)], .row 0 9 1 0 (some 1) [(.str (r))], .row 0 9 1 0 (some 1) [(.str [10])], .row 0 3 1 0 (some 1) [(.int .i64 0)], .defs, .loop .ready none 11 13 tm1 [7] (rAs Tryd.prog 11 0) (rBd Tryd.prog 11 0) 4, .row (Nat.succ (List.length d - 1)) 9 1 0 none (List.map V.str d ++ [V.str (List.take (Int.toNat (findByte 10 r 0 + 0)) r)])]) [] (by kernel_rfl) rfl .nil ?_
      refine Wl.done 4 rfl ?_
      refine Wc.condF (by kernel_rfl) (by kernel_rfl) ?_
      refine Wc.skip ?_
      refine Wc.whole (b := (base 45 52)) [0, 1, 2, 3, 7, 8, 33, 42] [(0, (.func (.yield 5) [] [])), (1, (.ptr 2 0 0)), (2, (.ptr 1 0 0)), (3, (.ptr 3 0 0)), (7, (.int .i64 (findByte 10 r 0))), (8, (.str (List.take (Int.toNat (findByte 10 r 0 + 0)) r))), (33, (.bool (decide (findByte 10 r 0 < 0)))), (42, (.bool false))] (hp [.row 0 24 1 0 (some 1) [(.sl 6 (Nat.succ (List.length d - 1)) 0 (List.length d + List.length [V.str (List.take (Int.toNat (findByte 10 r 0 + 0)) r)]) none)], .row 0 9 1 0 (some 1) [(.str (List.drop (Int.toNat (findByte 10 r 0 + 1)) r))], .row 0 9 1 0 (some 1) [(.str [10])], .row 0 3 1 0 (some 1) [(.int .i64 0)], .defs, .loop .ready none 11 13 tm1 [7] (rAs Tryd.prog 11 0) (rBd Tryd.prog 11 0) 4, .row (Nat.succ (List.length d - 1)) 9 1 0 none (List.map V.str d ++ [V.str (List.take (Int.toNat (findByte 10 r 0 + 0)) r)])]) [(((-9223372036854775808 : Int) ≤ findByte (10 : UInt8) r (0 : Nat) + (1 : Int)) ∧ (findByte (10 : UInt8) r (0 : Nat) + (1 : Int) ≤ (9223372036854775807 : Int))), (((0 : Int) ≤ findByte (10 : UInt8) r (0 : Nat) + (1 : Int)) ∧ (findByte (10 : UInt8) r (0 : Nat) + (1 : Int) ≤ (↑(List.length r) : Int)))] (by kernel_rfl) (.cons (by omega) (.cons (by omega) .nil)) ?_
      have hn := lines_next r (by assumption)
      have e1 : (d ++ [r.take (findByte 10 r 0 + 0).toNat]).length = d.length + 1 := by simp
      have e2 : (d ++ [r.take (findByte 10 r 0 + 0).toNat]).map V.str = d.map V.str ++ [V.str (r.take (findByte 10 r 0 + 0).toNat)] := by simp
      refine ⟨some (d ++ [r.take (findByte 10 r 0 + 0).toNat], r.drop (findByte 10 r 0 + 1).toNat), Le.on [0, 1, 2, 3] (by kernel_rfl), ?_, ⟨by simp, by rw [hl, hn]; simp, by simp; omega⟩, by simp; omega⟩
      simp only
      rw [e1, e2, show d.length + 1 - 1 = (d.length - 1).succ by omega]
      kernel_rfl
def moreI (b : Int) : Int := if b < 128 then 0 else if 194 ≤ b ∧ b ≤ 223 then 1 else if 224 ≤ b ∧ b ≤ 239 then 2 else if 240 ≤ b ∧ b ≤ 244 then 3 else -1
theorem c39 (b : Int) : Cp Tryd.prog EU 24 [.int .u8 b] (.int .i64 (moreI b)) := by
  refine Cp.body (fn := Tryd.f24) Tryd.func24 rfl (by kernel_rfl) ?_
  by_cases a1 : b < 128
  · refine Wc.seq ?_
    refine Wc.whole (b := (base 24 23)) [0, 2] [(0, (.int .u8 (b))), (2, (.int .i64 0))] Heap.empty [] (by kernel_rfl) .nil ?_
    refine Wc.seq ?_
    refine Wc.seq ?_
    refine Wc.whole (b := (base 24 23)) [0, 2, 4] [(0, (.int .u8 (b))), (2, (.int .i64 0)), (4, (.bool (decide (b < 128))))] Heap.empty [] (by kernel_rfl) .nil ?_
    refine Wc.condP (p := b < 128) (by kernel_rfl) (by kernel_rfl) (fun c1 => ?_) (fun c1 => absurd (show b < 128 from (by with_reducible assumption)) c1)
    refine Wc.seq ?_
    refine Wc.whole (b := (base 24 23)) [0, 2, 4] [(0, (.int .u8 (b))), (2, (.int .i64 0)), (4, (.bool (decide (b < 128))))] Heap.empty [] (by kernel_rfl) .nil ?_
    refine Wc.ret ?_
    refine retX.mk (.int .i64 0) ⟨rfl, rfl⟩ (by kernel_rfl) ?_
    refine congrArg (fun x => some (V.int .i64 x)) ?_
    unfold moreI
    repeat' split
    all_goals omega
  · by_cases a2 : 194 ≤ b
    · by_cases a3 : b ≤ 223
      · refine Wc.seq ?_
        refine Wc.whole (b := (base 24 23)) [0, 2] [(0, (.int .u8 (b))), (2, (.int .i64 0))] Heap.empty [] (by kernel_rfl) .nil ?_
        refine Wc.seq ?_
        refine Wc.seq ?_
        refine Wc.whole (b := (base 24 23)) [0, 2, 4] [(0, (.int .u8 (b))), (2, (.int .i64 0)), (4, (.bool (decide (b < 128))))] Heap.empty [] (by kernel_rfl) .nil ?_
        refine Wc.condP (p := b < 128) (by kernel_rfl) (by kernel_rfl) (fun c1 => absurd c1 (show ¬ (b < 128) from (by with_reducible assumption))) (fun c1 => ?_)
        refine Wc.skip ?_
        refine Wc.seq ?_
        refine Wc.seq ?_
        refine Wc.enter ?_
        refine Wl.batch (b := (base 24 23)) 0 3 [0, 2, 4, 7] [(0, (.int .u8 (b))), (2, (.int .i64 0)), (4, (.bool (decide (b < 128)))), (7, (.bool (decide (194 ≤ b))))] Heap.empty [] (by kernel_rfl) rfl .nil ?_
        refine Wl.known [(0, (.int .u8 (b))), (2, (.int .i64 0)), (4, (.bool (decide (b < 128)))), (7, (.bool true))] (by have e := decide_eq_true (show 194 ≤ b from (by with_reducible assumption)); rw [e] <;> rfl) ?_
        refine Wl.batch (b := (base 24 23)) 3 6 [0, 2, 4, 10] [(0, (.int .u8 (b))), (2, (.int .i64 0)), (4, (.bool (decide (b < 128)))), (10, (.bool (decide (b ≤ 223))))] Heap.empty [] (by kernel_rfl) rfl .nil ?_
        refine Wl.done 6 rfl ?_
        refine Wc.condP (p := b ≤ 223) (by kernel_rfl) (by kernel_rfl) (fun c3 => ?_) (fun c3 => absurd (show b ≤ 223 from (by with_reducible assumption)) c3)
        refine Wc.seq ?_
        refine Wc.whole (b := (base 24 23)) [0, 2, 4, 10] [(0, (.int .u8 (b))), (2, (.int .i64 1)), (4, (.bool (decide (b < 128)))), (10, (.bool (decide (b ≤ 223))))] Heap.empty [] (by kernel_rfl) .nil ?_
        refine Wc.ret ?_
        refine retX.mk (.int .i64 1) ⟨rfl, rfl⟩ (by kernel_rfl) ?_
        refine congrArg (fun x => some (V.int .i64 x)) ?_
        unfold moreI
        repeat' split
        all_goals omega
      · by_cases a4 : 224 ≤ b
        · by_cases a5 : b ≤ 239
          · refine Wc.seq ?_
            refine Wc.whole (b := (base 24 23)) [0, 2] [(0, (.int .u8 (b))), (2, (.int .i64 0))] Heap.empty [] (by kernel_rfl) .nil ?_
            refine Wc.seq ?_
            refine Wc.seq ?_
            refine Wc.whole (b := (base 24 23)) [0, 2, 4] [(0, (.int .u8 (b))), (2, (.int .i64 0)), (4, (.bool (decide (b < 128))))] Heap.empty [] (by kernel_rfl) .nil ?_
            refine Wc.condP (p := b < 128) (by kernel_rfl) (by kernel_rfl) (fun c1 => absurd c1 (show ¬ (b < 128) from (by with_reducible assumption))) (fun c1 => ?_)
            refine Wc.skip ?_
            refine Wc.seq ?_
            refine Wc.seq ?_
            refine Wc.enter ?_
            refine Wl.batch (b := (base 24 23)) 0 3 [0, 2, 4, 7] [(0, (.int .u8 (b))), (2, (.int .i64 0)), (4, (.bool (decide (b < 128)))), (7, (.bool (decide (194 ≤ b))))] Heap.empty [] (by kernel_rfl) rfl .nil ?_
            refine Wl.known [(0, (.int .u8 (b))), (2, (.int .i64 0)), (4, (.bool (decide (b < 128)))), (7, (.bool true))] (by have e := decide_eq_true (show 194 ≤ b from (by with_reducible assumption)); rw [e] <;> rfl) ?_
            refine Wl.batch (b := (base 24 23)) 3 6 [0, 2, 4, 10] [(0, (.int .u8 (b))), (2, (.int .i64 0)), (4, (.bool (decide (b < 128)))), (10, (.bool (decide (b ≤ 223))))] Heap.empty [] (by kernel_rfl) rfl .nil ?_
            refine Wl.done 6 rfl ?_
            refine Wc.condP (p := b ≤ 223) (by kernel_rfl) (by kernel_rfl) (fun c3 => absurd c3 (show ¬ (b ≤ 223) from (by with_reducible assumption))) (fun c3 => ?_)
            refine Wc.skip ?_
            refine Wc.seq ?_
            refine Wc.seq ?_
            refine Wc.enter ?_
            refine Wl.batch (b := (base 24 23)) 0 3 [0, 2, 4, 10, 13] [(0, (.int .u8 (b))), (2, (.int .i64 0)), (4, (.bool (decide (b < 128)))), (10, (.bool (decide (b ≤ 223)))), (13, (.bool (decide (224 ≤ b))))] Heap.empty [] (by kernel_rfl) rfl .nil ?_
            refine Wl.known [(0, (.int .u8 (b))), (2, (.int .i64 0)), (4, (.bool (decide (b < 128)))), (10, (.bool (decide (b ≤ 223)))), (13, (.bool true))] (by have e := decide_eq_true (show 224 ≤ b from (by with_reducible assumption)); rw [e] <;> rfl) ?_
            refine Wl.batch (b := (base 24 23)) 3 6 [0, 2, 4, 10, 16] [(0, (.int .u8 (b))), (2, (.int .i64 0)), (4, (.bool (decide (b < 128)))), (10, (.bool (decide (b ≤ 223)))), (16, (.bool (decide (b ≤ 239))))] Heap.empty [] (by kernel_rfl) rfl .nil ?_
            refine Wl.done 6 rfl ?_
            refine Wc.condP (p := b ≤ 239) (by kernel_rfl) (by kernel_rfl) (fun c5 => ?_) (fun c5 => absurd (show b ≤ 239 from (by with_reducible assumption)) c5)
            refine Wc.seq ?_
            refine Wc.whole (b := (base 24 23)) [0, 2, 4, 10, 16] [(0, (.int .u8 (b))), (2, (.int .i64 2)), (4, (.bool (decide (b < 128)))), (10, (.bool (decide (b ≤ 223)))), (16, (.bool (decide (b ≤ 239))))] Heap.empty [] (by kernel_rfl) .nil ?_
            refine Wc.ret ?_
            refine retX.mk (.int .i64 2) ⟨rfl, rfl⟩ (by kernel_rfl) ?_
            refine congrArg (fun x => some (V.int .i64 x)) ?_
            unfold moreI
            repeat' split
            all_goals omega
          · by_cases a6 : b ≤ 244
            · refine Wc.seq ?_
              refine Wc.whole (b := (base 24 23)) [0, 2] [(0, (.int .u8 (b))), (2, (.int .i64 0))] Heap.empty [] (by kernel_rfl) .nil ?_
              refine Wc.seq ?_
              refine Wc.seq ?_
              refine Wc.whole (b := (base 24 23)) [0, 2, 4] [(0, (.int .u8 (b))), (2, (.int .i64 0)), (4, (.bool (decide (b < 128))))] Heap.empty [] (by kernel_rfl) .nil ?_
              refine Wc.condP (p := b < 128) (by kernel_rfl) (by kernel_rfl) (fun c1 => absurd c1 (show ¬ (b < 128) from (by with_reducible assumption))) (fun c1 => ?_)
              refine Wc.skip ?_
              refine Wc.seq ?_
              refine Wc.seq ?_
              refine Wc.enter ?_
              refine Wl.batch (b := (base 24 23)) 0 3 [0, 2, 4, 7] [(0, (.int .u8 (b))), (2, (.int .i64 0)), (4, (.bool (decide (b < 128)))), (7, (.bool (decide (194 ≤ b))))] Heap.empty [] (by kernel_rfl) rfl .nil ?_
              refine Wl.known [(0, (.int .u8 (b))), (2, (.int .i64 0)), (4, (.bool (decide (b < 128)))), (7, (.bool true))] (by have e := decide_eq_true (show 194 ≤ b from (by with_reducible assumption)); rw [e] <;> rfl) ?_
              refine Wl.batch (b := (base 24 23)) 3 6 [0, 2, 4, 10] [(0, (.int .u8 (b))), (2, (.int .i64 0)), (4, (.bool (decide (b < 128)))), (10, (.bool (decide (b ≤ 223))))] Heap.empty [] (by kernel_rfl) rfl .nil ?_
              refine Wl.done 6 rfl ?_
              refine Wc.condP (p := b ≤ 223) (by kernel_rfl) (by kernel_rfl) (fun c3 => absurd c3 (show ¬ (b ≤ 223) from (by with_reducible assumption))) (fun c3 => ?_)
              refine Wc.skip ?_
              refine Wc.seq ?_
              refine Wc.seq ?_
              refine Wc.enter ?_
              refine Wl.batch (b := (base 24 23)) 0 3 [0, 2, 4, 10, 13] [(0, (.int .u8 (b))), (2, (.int .i64 0)), (4, (.bool (decide (b < 128)))), (10, (.bool (decide (b ≤ 223)))), (13, (.bool (decide (224 ≤ b))))] Heap.empty [] (by kernel_rfl) rfl .nil ?_
              refine Wl.known [(0, (.int .u8 (b))), (2, (.int .i64 0)), (4, (.bool (decide (b < 128)))), (10, (.bool (decide (b ≤ 223)))), (13, (.bool true))] (by have e := decide_eq_true (show 224 ≤ b from (by with_reducible assumption)); rw [e] <;> rfl) ?_
              refine Wl.batch (b := (base 24 23)) 3 6 [0, 2, 4, 10, 16] [(0, (.int .u8 (b))), (2, (.int .i64 0)), (4, (.bool (decide (b < 128)))), (10, (.bool (decide (b ≤ 223)))), (16, (.bool (decide (b ≤ 239))))] Heap.empty [] (by kernel_rfl) rfl .nil ?_
              refine Wl.done 6 rfl ?_
              refine Wc.condP (p := b ≤ 239) (by kernel_rfl) (by kernel_rfl) (fun c5 => absurd c5 (show ¬ (b ≤ 239) from (by with_reducible assumption))) (fun c5 => ?_)
              refine Wc.skip ?_
              refine Wc.seq ?_
              refine Wc.seq ?_
              refine Wc.enter ?_
              refine Wl.batch (b := (base 24 23)) 0 3 [0, 2, 4, 10, 16, 19] [(0, (.int .u8 (b))), (2, (.int .i64 0)), (4, (.bool (decide (b < 128)))), (10, (.bool (decide (b ≤ 223)))), (16, (.bool (decide (b ≤ 239)))), (19, (.bool (decide (240 ≤ b))))] Heap.empty [] (by kernel_rfl) rfl .nil ?_
              refine Wl.known [(0, (.int .u8 (b))), (2, (.int .i64 0)), (4, (.bool (decide (b < 128)))), (10, (.bool (decide (b ≤ 223)))), (16, (.bool (decide (b ≤ 239)))), (19, (.bool true))] (by have e := decide_eq_true (show 240 ≤ b from (by omega)); rw [e] <;> rfl) ?_
              refine Wl.batch (b := (base 24 23)) 3 6 [0, 2, 4, 10, 16, 22] [(0, (.int .u8 (b))), (2, (.int .i64 0)), (4, (.bool (decide (b < 128)))), (10, (.bool (decide (b ≤ 223)))), (16, (.bool (decide (b ≤ 239)))), (22, (.bool (decide (b ≤ 244))))] Heap.empty [] (by kernel_rfl) rfl .nil ?_
              refine Wl.done 6 rfl ?_
              refine Wc.condP (p := b ≤ 244) (by kernel_rfl) (by kernel_rfl) (fun c7 => ?_) (fun c7 => absurd (show b ≤ 244 from (by with_reducible assumption)) c7)
              refine Wc.seq ?_
              refine Wc.whole (b := (base 24 23)) [0, 2, 4, 10, 16, 22] [(0, (.int .u8 (b))), (2, (.int .i64 3)), (4, (.bool (decide (b < 128)))), (10, (.bool (decide (b ≤ 223)))), (16, (.bool (decide (b ≤ 239)))), (22, (.bool (decide (b ≤ 244))))] Heap.empty [] (by kernel_rfl) .nil ?_
              refine Wc.ret ?_
              refine retX.mk (.int .i64 3) ⟨rfl, rfl⟩ (by kernel_rfl) ?_
              refine congrArg (fun x => some (V.int .i64 x)) ?_
              unfold moreI
              repeat' split
              all_goals omega
            · refine Wc.seq ?_
              refine Wc.whole (b := (base 24 23)) [0, 2] [(0, (.int .u8 (b))), (2, (.int .i64 0))] Heap.empty [] (by kernel_rfl) .nil ?_
              refine Wc.seq ?_
              refine Wc.seq ?_
              refine Wc.whole (b := (base 24 23)) [0, 2, 4] [(0, (.int .u8 (b))), (2, (.int .i64 0)), (4, (.bool (decide (b < 128))))] Heap.empty [] (by kernel_rfl) .nil ?_
              refine Wc.condP (p := b < 128) (by kernel_rfl) (by kernel_rfl) (fun c1 => absurd c1 (show ¬ (b < 128) from (by with_reducible assumption))) (fun c1 => ?_)
              refine Wc.skip ?_
              refine Wc.seq ?_
              refine Wc.seq ?_
              refine Wc.enter ?_
              refine Wl.batch (b := (base 24 23)) 0 3 [0, 2, 4, 7] [(0, (.int .u8 (b))), (2, (.int .i64 0)), (4, (.bool (decide (b < 128)))), (7, (.bool (decide (194 ≤ b))))] Heap.empty [] (by kernel_rfl) rfl .nil ?_
              refine Wl.known [(0, (.int .u8 (b))), (2, (.int .i64 0)), (4, (.bool (decide (b < 128)))), (7, (.bool true))] (by have e := decide_eq_true (show 194 ≤ b from (by with_reducible assumption)); rw [e] <;> rfl) ?_
              refine Wl.batch (b := (base 24 23)) 3 6 [0, 2, 4, 10] [(0, (.int .u8 (b))), (2, (.int .i64 0)), (4, (.bool (decide (b < 128)))), (10, (.bool (decide (b ≤ 223))))] Heap.empty [] (by kernel_rfl) rfl .nil ?_
              refine Wl.done 6 rfl ?_
              refine Wc.condP (p := b ≤ 223) (by kernel_rfl) (by kernel_rfl) (fun c3 => absurd c3 (show ¬ (b ≤ 223) from (by with_reducible assumption))) (fun c3 => ?_)
              refine Wc.skip ?_
              refine Wc.seq ?_
              refine Wc.seq ?_
              refine Wc.enter ?_
              refine Wl.batch (b := (base 24 23)) 0 3 [0, 2, 4, 10, 13] [(0, (.int .u8 (b))), (2, (.int .i64 0)), (4, (.bool (decide (b < 128)))), (10, (.bool (decide (b ≤ 223)))), (13, (.bool (decide (224 ≤ b))))] Heap.empty [] (by kernel_rfl) rfl .nil ?_
              refine Wl.known [(0, (.int .u8 (b))), (2, (.int .i64 0)), (4, (.bool (decide (b < 128)))), (10, (.bool (decide (b ≤ 223)))), (13, (.bool true))] (by have e := decide_eq_true (show 224 ≤ b from (by with_reducible assumption)); rw [e] <;> rfl) ?_
              refine Wl.batch (b := (base 24 23)) 3 6 [0, 2, 4, 10, 16] [(0, (.int .u8 (b))), (2, (.int .i64 0)), (4, (.bool (decide (b < 128)))), (10, (.bool (decide (b ≤ 223)))), (16, (.bool (decide (b ≤ 239))))] Heap.empty [] (by kernel_rfl) rfl .nil ?_
              refine Wl.done 6 rfl ?_
              refine Wc.condP (p := b ≤ 239) (by kernel_rfl) (by kernel_rfl) (fun c5 => absurd c5 (show ¬ (b ≤ 239) from (by with_reducible assumption))) (fun c5 => ?_)
              refine Wc.skip ?_
              refine Wc.seq ?_
              refine Wc.seq ?_
              refine Wc.enter ?_
              refine Wl.batch (b := (base 24 23)) 0 3 [0, 2, 4, 10, 16, 19] [(0, (.int .u8 (b))), (2, (.int .i64 0)), (4, (.bool (decide (b < 128)))), (10, (.bool (decide (b ≤ 223)))), (16, (.bool (decide (b ≤ 239)))), (19, (.bool (decide (240 ≤ b))))] Heap.empty [] (by kernel_rfl) rfl .nil ?_
              refine Wl.known [(0, (.int .u8 (b))), (2, (.int .i64 0)), (4, (.bool (decide (b < 128)))), (10, (.bool (decide (b ≤ 223)))), (16, (.bool (decide (b ≤ 239)))), (19, (.bool true))] (by have e := decide_eq_true (show 240 ≤ b from (by omega)); rw [e] <;> rfl) ?_
              refine Wl.batch (b := (base 24 23)) 3 6 [0, 2, 4, 10, 16, 22] [(0, (.int .u8 (b))), (2, (.int .i64 0)), (4, (.bool (decide (b < 128)))), (10, (.bool (decide (b ≤ 223)))), (16, (.bool (decide (b ≤ 239)))), (22, (.bool (decide (b ≤ 244))))] Heap.empty [] (by kernel_rfl) rfl .nil ?_
              refine Wl.done 6 rfl ?_
              refine Wc.condP (p := b ≤ 244) (by kernel_rfl) (by kernel_rfl) (fun c7 => absurd c7 (show ¬ (b ≤ 244) from (by with_reducible assumption))) (fun c7 => ?_)
              refine Wc.skip ?_
              refine Wc.seq ?_
              refine Wc.whole (b := (base 24 23)) [0, 2, 4, 10, 16, 22] [(0, (.int .u8 (b))), (2, (.int .i64 (-1))), (4, (.bool (decide (b < 128)))), (10, (.bool (decide (b ≤ 223)))), (16, (.bool (decide (b ≤ 239)))), (22, (.bool (decide (b ≤ 244))))] Heap.empty [] (by kernel_rfl) .nil ?_
              refine Wc.ret ?_
              refine retX.mk (.int .i64 (-1)) ⟨rfl, rfl⟩ (by kernel_rfl) ?_
              refine congrArg (fun x => some (V.int .i64 x)) ?_
              unfold moreI
              repeat' split
              all_goals omega
        · omega
    · refine Wc.seq ?_
      refine Wc.whole (b := (base 24 23)) [0, 2] [(0, (.int .u8 (b))), (2, (.int .i64 0))] Heap.empty [] (by kernel_rfl) .nil ?_
      refine Wc.seq ?_
      refine Wc.seq ?_
      refine Wc.whole (b := (base 24 23)) [0, 2, 4] [(0, (.int .u8 (b))), (2, (.int .i64 0)), (4, (.bool (decide (b < 128))))] Heap.empty [] (by kernel_rfl) .nil ?_
      refine Wc.condP (p := b < 128) (by kernel_rfl) (by kernel_rfl) (fun c1 => absurd c1 (show ¬ (b < 128) from (by with_reducible assumption))) (fun c1 => ?_)
      refine Wc.skip ?_
      refine Wc.seq ?_
      refine Wc.seq ?_
      refine Wc.enter ?_
      refine Wl.batch (b := (base 24 23)) 0 3 [0, 2, 4, 7] [(0, (.int .u8 (b))), (2, (.int .i64 0)), (4, (.bool (decide (b < 128)))), (7, (.bool (decide (194 ≤ b))))] Heap.empty [] (by kernel_rfl) rfl .nil ?_
      refine Wl.known [(0, (.int .u8 (b))), (2, (.int .i64 0)), (4, (.bool (decide (b < 128)))), (7, (.bool false))] (by have e := decide_eq_false (show ¬ (194 ≤ b) from (by with_reducible assumption)); rw [e] <;> rfl) ?_
      refine Wl.batch (b := (base 24 23)) 3 6 [0, 2, 4, 10] [(0, (.int .u8 (b))), (2, (.int .i64 0)), (4, (.bool (decide (b < 128)))), (10, (.bool false))] Heap.empty [] (by kernel_rfl) rfl .nil ?_
      refine Wl.done 6 rfl ?_
      refine Wc.condF (by kernel_rfl) (by kernel_rfl) ?_
      refine Wc.skip ?_
      refine Wc.seq ?_
      refine Wc.seq ?_
      refine Wc.enter ?_
      refine Wl.batch (b := (base 24 23)) 0 3 [0, 2, 4, 10, 13] [(0, (.int .u8 (b))), (2, (.int .i64 0)), (4, (.bool (decide (b < 128)))), (10, (.bool false)), (13, (.bool (decide (224 ≤ b))))] Heap.empty [] (by kernel_rfl) rfl .nil ?_
      refine Wl.known [(0, (.int .u8 (b))), (2, (.int .i64 0)), (4, (.bool (decide (b < 128)))), (10, (.bool false)), (13, (.bool false))] (by have e := decide_eq_false (show ¬ (224 ≤ b) from (by omega)); rw [e] <;> rfl) ?_
      refine Wl.batch (b := (base 24 23)) 3 6 [0, 2, 4, 10, 16] [(0, (.int .u8 (b))), (2, (.int .i64 0)), (4, (.bool (decide (b < 128)))), (10, (.bool false)), (16, (.bool false))] Heap.empty [] (by kernel_rfl) rfl .nil ?_
      refine Wl.done 6 rfl ?_
      refine Wc.condF (by kernel_rfl) (by kernel_rfl) ?_
      refine Wc.skip ?_
      refine Wc.seq ?_
      refine Wc.seq ?_
      refine Wc.enter ?_
      refine Wl.batch (b := (base 24 23)) 0 3 [0, 2, 4, 10, 16, 19] [(0, (.int .u8 (b))), (2, (.int .i64 0)), (4, (.bool (decide (b < 128)))), (10, (.bool false)), (16, (.bool false)), (19, (.bool (decide (240 ≤ b))))] Heap.empty [] (by kernel_rfl) rfl .nil ?_
      refine Wl.known [(0, (.int .u8 (b))), (2, (.int .i64 0)), (4, (.bool (decide (b < 128)))), (10, (.bool false)), (16, (.bool false)), (19, (.bool false))] (by have e := decide_eq_false (show ¬ (240 ≤ b) from (by omega)); rw [e] <;> rfl) ?_
      refine Wl.batch (b := (base 24 23)) 3 6 [0, 2, 4, 10, 16, 22] [(0, (.int .u8 (b))), (2, (.int .i64 0)), (4, (.bool (decide (b < 128)))), (10, (.bool false)), (16, (.bool false)), (22, (.bool false))] Heap.empty [] (by kernel_rfl) rfl .nil ?_
      refine Wl.done 6 rfl ?_
      refine Wc.condF (by kernel_rfl) (by kernel_rfl) ?_
      refine Wc.skip ?_
      refine Wc.seq ?_
      refine Wc.whole (b := (base 24 23)) [0, 2, 4, 10, 16, 22] [(0, (.int .u8 (b))), (2, (.int .i64 (-1))), (4, (.bool (decide (b < 128)))), (10, (.bool false)), (16, (.bool false)), (22, (.bool false))] Heap.empty [] (by kernel_rfl) .nil ?_
      refine Wc.ret ?_
      refine retX.mk (.int .i64 (-1)) ⟨rfl, rfl⟩ (by kernel_rfl) ?_
      refine congrArg (fun x => some (V.int .i64 x)) ?_
      unfold moreI
      repeat' split
      all_goals omega
theorem one_nil : one [] = 0 := rfl
theorem c33nil : Cp Tryd.prog EU 13 [.str []] (.int .i64 0) := by
  refine Cp.body (fn := Tryd.f13) Tryd.func13 rfl (by kernel_rfl) ?_
  refine Wc.seq ?_
  refine Wc.whole (b := (base 13 80)) [0, 2] [(0, (.str [])), (2, (.int .i64 0))] Heap.empty [] (by kernel_rfl) .nil ?_
  refine Wc.seq ?_
  refine Wc.seq ?_
  refine Wc.whole (b := (base 13 80)) [0, 2, 22] [(0, (.str [])), (2, (.int .i64 0)), (22, (.bool true))] Heap.empty [] (by kernel_rfl) .nil ?_
  refine Wc.condT (by kernel_rfl) (by kernel_rfl) ?_
  refine Wc.seq ?_
  refine Wc.whole (b := (base 13 80)) [0, 2, 22] [(0, (.str [])), (2, (.int .i64 0)), (22, (.bool true))] Heap.empty [] (by kernel_rfl) .nil ?_
  refine Wc.ret ?_
  refine retX.mk (.int .i64 0) ⟨rfl, rfl⟩ (by kernel_rfl) ?_
  kernel_rfl
theorem c33none (s : List UInt8) (hs : s ≠ []) (hn : moreI (byteAt s 0) = -1) : Cp Tryd.prog EU 13 [.str s] (.int .i64 0) := by
  have h0 : 0 < s.length := List.length_pos_iff.2 hs
  have hs' : ¬ s = [] := hs
  have hc := c39 (byteAt s 0)
  rw [hn] at hc
  refine Cp.body (fn := Tryd.f13) Tryd.func13 rfl (by kernel_rfl) ?_
  refine Wc.seq ?_
  refine Wc.whole (b := (base 13 80)) [0, 2] [(0, (.str (s))), (2, (.int .i64 0))] Heap.empty [] (by kernel_rfl) .nil ?_
  refine Wc.seq ?_
  refine Wc.seq ?_
  refine Wc.enter ?_
  refine Wl.batch (b := (base 13 80)) 0 3 [0, 2, 9] [(0, (.str (s))), (2, (.int .i64 0)), (9, (.bool (decide (s = []))))] Heap.empty [] (by kernel_rfl) rfl .nil ?_
  refine Wl.known [(0, (.str (s))), (2, (.int .i64 0)), (9, (.bool false))] (by have e := decide_eq_false (show ¬ (s = []) from (by with_reducible assumption)); rw [e] <;> rfl) ?_
  refine Wl.batch (b := (base 13 80)) 3 5 [0, 2, 9, 11] [(0, (.str (s))), (2, (.int .i64 0)), (9, (.bool false)), (11, (.int .u8 (byteAt s 0)))] Heap.empty [(((0 : Int) ≤ (0 : Int)) ∧ ((0 : Int) < (↑(List.length s) : Int)))] (by kernel_rfl) rfl (.cons (by omega) .nil) ?_
  refine Wl.callP (b := (base 13 80)) (h1 := Heap.empty) (h2 := Heap.empty) (v := (.int .i64 (-1))) (d := (some 12)) 5 [0, 2, 9, 12] [(0, (.str (s))), (2, (.int .i64 0)), (9, (.bool false)), (12, (.int .i64 (-1)))] (@hc) (by kernel_rfl) (by kernel_rfl) (by kernel_rfl) ?_
  refine Wl.batch (b := (base 13 80)) 6 16 [0, 2, 22] [(0, (.str (s))), (2, (.int .i64 0)), (22, (.bool true))] Heap.empty [] (by kernel_rfl) rfl .nil ?_
  refine Wl.done 16 rfl ?_
  refine Wc.condT (by kernel_rfl) (by kernel_rfl) ?_
  refine Wc.seq ?_
  refine Wc.whole (b := (base 13 80)) [0, 2, 22] [(0, (.str (s))), (2, (.int .i64 0)), (22, (.bool true))] Heap.empty [] (by kernel_rfl) .nil ?_
  refine Wc.ret ?_
  refine retX.mk (.int .i64 0) ⟨rfl, rfl⟩ (by kernel_rfl) ?_
  kernel_rfl
theorem c33short (s : List UInt8) (hs : s ≠ []) (n : Int) (h1 : 1 ≤ n) (h2 : (s.length : Int) ≤ n) (hn : moreI (byteAt s 0) = n) : Cp Tryd.prog EU 13 [.str s] (.int .i64 0) := by
  have h0 : 0 < s.length := List.length_pos_iff.2 hs
  have hs' : ¬ s = [] := hs
  have hc := c39 (byteAt s 0)
  rw [hn] at hc
  refine Cp.body (fn := Tryd.f13) Tryd.func13 rfl (by kernel_rfl) ?_
  refine Wc.seq ?_
  refine Wc.whole (b := (base 13 80)) [0, 2] [(0, (.str (s))), (2, (.int .i64 0))] Heap.empty [] (by kernel_rfl) .nil ?_
  refine Wc.seq ?_
  refine Wc.seq ?_
  refine Wc.enter ?_
  refine Wl.batch (b := (base 13 80)) 0 3 [0, 2, 9] [(0, (.str (s))), (2, (.int .i64 0)), (9, (.bool (decide (s = []))))] Heap.empty [] (by kernel_rfl) rfl .nil ?_
  refine Wl.known [(0, (.str (s))), (2, (.int .i64 0)), (9, (.bool false))] (by have e := decide_eq_false (show ¬ (s = []) from (by with_reducible assumption)); rw [e] <;> rfl) ?_
  refine Wl.batch (b := (base 13 80)) 3 5 [0, 2, 9, 11] [(0, (.str (s))), (2, (.int .i64 0)), (9, (.bool false)), (11, (.int .u8 (byteAt s 0)))] Heap.empty [(((0 : Int) ≤ (0 : Int)) ∧ ((0 : Int) < (↑(List.length s) : Int)))] (by kernel_rfl) rfl (.cons (by omega) .nil) ?_
  refine Wl.callP (b := (base 13 80)) (h1 := Heap.empty) (h2 := Heap.empty) (v := (.int .i64 (n))) (d := (some 12)) 5 [0, 2, 9, 12] [(0, (.str (s))), (2, (.int .i64 0)), (9, (.bool false)), (12, (.int .i64 (n)))] (@hc) (by kernel_rfl) (by kernel_rfl) (by kernel_rfl) ?_
  refine Wl.batch (b := (base 13 80)) 6 9 [0, 2, 15] [(0, (.str (s))), (2, (.int .i64 0)), (15, (.bool (decide (n < 0))))] Heap.empty [] (by kernel_rfl) rfl .nil ?_
  refine Wl.known [(0, (.str (s))), (2, (.int .i64 0)), (15, (.bool false))] (by have e := decide_eq_false (show ¬ (n < 0) from (by omega)); rw [e] <;> rfl) ?_
  refine Wl.batch (b := (base 13 80)) 9 11 [0, 2, 15, 17] [(0, (.str (s))), (2, (.int .i64 0)), (15, (.bool false)), (17, (.int .u8 (byteAt s 0)))] Heap.empty [(((0 : Int) ≤ (0 : Int)) ∧ ((0 : Int) < (↑(List.length s) : Int)))] (by kernel_rfl) rfl (.cons (by omega) .nil) ?_
  refine Wl.callP (b := (base 13 80)) (h1 := Heap.empty) (h2 := Heap.empty) (v := (.int .i64 (n))) (d := (some 18)) 11 [0, 2, 15, 18] [(0, (.str (s))), (2, (.int .i64 0)), (15, (.bool false)), (18, (.int .i64 (n)))] (@hc) (by kernel_rfl) (by kernel_rfl) (by kernel_rfl) ?_
  refine Wl.batch (b := (base 13 80)) 12 16 [0, 2, 22] [(0, (.str (s))), (2, (.int .i64 0)), (22, (.bool (decide ((↑(List.length s) : Int) ≤ n))))] Heap.empty [] (by kernel_rfl) rfl .nil ?_
  refine Wl.done 16 rfl ?_
  refine Wc.condP (p := (↑(List.length s) : Int) ≤ n) (by kernel_rfl) (by kernel_rfl) (fun c3 => ?_) (fun c3 => absurd (show (↑(List.length s) : Int) ≤ n from (by with_reducible assumption)) c3)
  refine Wc.seq ?_
  refine Wc.whole (b := (base 13 80)) [0, 2, 22] [(0, (.str (s))), (2, (.int .i64 0)), (22, (.bool (decide ((↑(List.length s) : Int) ≤ n))))] Heap.empty [] (by kernel_rfl) .nil ?_
  refine Wc.ret ?_
  refine retX.mk (.int .i64 0) ⟨rfl, rfl⟩ (by kernel_rfl) ?_
  kernel_rfl
theorem c33a (s : List UInt8) (hs : s ≠ []) (hn : moreI (byteAt s 0) = 0) (h128 : byteAt s 0 < 128) (hb : 0 ≤ byteAt s 0) : Cp Tryd.prog EU 13 [.str s] (.int .i64 1) := by
  have h0 : 0 < s.length := List.length_pos_iff.2 hs
  have hs' : ¬ s = [] := hs
  have hc := c39 (byteAt s 0)
  rw [hn] at hc
  refine Cp.body (fn := Tryd.f13) Tryd.func13 rfl (by kernel_rfl) ?_
  refine Wc.seq ?_
  refine Wc.whole (b := (base 13 80)) [0, 2] [(0, (.str (s))), (2, (.int .i64 0))] Heap.empty [] (by kernel_rfl) .nil ?_
  refine Wc.seq ?_
  refine Wc.seq ?_
  refine Wc.enter ?_
  refine Wl.batch (b := (base 13 80)) 0 3 [0, 2, 9] [(0, (.str (s))), (2, (.int .i64 0)), (9, (.bool (decide (s = []))))] Heap.empty [] (by kernel_rfl) rfl .nil ?_
  refine Wl.known [(0, (.str (s))), (2, (.int .i64 0)), (9, (.bool false))] (by have e := decide_eq_false (show ¬ (s = []) from (by with_reducible assumption)); rw [e] <;> rfl) ?_
  refine Wl.batch (b := (base 13 80)) 3 5 [0, 2, 9, 11] [(0, (.str (s))), (2, (.int .i64 0)), (9, (.bool false)), (11, (.int .u8 (byteAt s 0)))] Heap.empty [(((0 : Int) ≤ (0 : Int)) ∧ ((0 : Int) < (↑(List.length s) : Int)))] (by kernel_rfl) rfl (.cons (by omega) .nil) ?_
  refine Wl.callP (b := (base 13 80)) (h1 := Heap.empty) (h2 := Heap.empty) (v := (.int .i64 0)) (d := (some 12)) 5 [0, 2, 9, 12] [(0, (.str (s))), (2, (.int .i64 0)), (9, (.bool false)), (12, (.int .i64 0))] (@hc) (by kernel_rfl) (by kernel_rfl) (by kernel_rfl) ?_
  refine Wl.batch (b := (base 13 80)) 6 11 [0, 2, 15, 17] [(0, (.str (s))), (2, (.int .i64 0)), (15, (.bool false)), (17, (.int .u8 (byteAt s 0)))] Heap.empty [(((0 : Int) ≤ (0 : Int)) ∧ ((0 : Int) < (↑(List.length s) : Int)))] (by kernel_rfl) rfl (.cons (by omega) .nil) ?_
  refine Wl.callP (b := (base 13 80)) (h1 := Heap.empty) (h2 := Heap.empty) (v := (.int .i64 0)) (d := (some 18)) 11 [0, 2, 15, 18] [(0, (.str (s))), (2, (.int .i64 0)), (15, (.bool false)), (18, (.int .i64 0))] (@hc) (by kernel_rfl) (by kernel_rfl) (by kernel_rfl) ?_
  refine Wl.batch (b := (base 13 80)) 12 16 [0, 2, 22] [(0, (.str (s))), (2, (.int .i64 0)), (22, (.bool (decide ((↑(List.length s) : Int) ≤ 0))))] Heap.empty [] (by kernel_rfl) rfl .nil ?_
  refine Wl.done 16 rfl ?_
  refine Wc.condP (p := (↑(List.length s) : Int) ≤ 0) (by kernel_rfl) (by kernel_rfl) (fun c2 => absurd c2 (show ¬ ((↑(List.length s) : Int) ≤ 0) from (by omega))) (fun c2 => ?_)
  refine Wc.skip ?_
  refine Wc.seq ?_
  refine Wc.enter ?_
  refine Wl.batch (b := (base 13 80)) 0 2 [0, 2, 22, 24] [(0, (.str (s))), (2, (.int .i64 0)), (22, (.bool (decide ((↑(List.length s) : Int) ≤ 0)))), (24, (.int .u8 (byteAt s 0)))] Heap.empty [(((0 : Int) ≤ (0 : Int)) ∧ ((0 : Int) < (↑(List.length s) : Int)))] (by kernel_rfl) rfl (.cons (by omega) .nil) ?_
  refine Wl.callP (b := (base 13 80)) (h1 := Heap.empty) (h2 := Heap.empty) (v := (.int .i64 0)) (d := (some 25)) 2 [0, 2, 22, 25] [(0, (.str (s))), (2, (.int .i64 0)), (22, (.bool (decide ((↑(List.length s) : Int) ≤ 0)))), (25, (.int .i64 0))] (@hc) (by kernel_rfl) (by kernel_rfl) (by kernel_rfl) ?_
  refine Wl.batch (b := (base 13 80)) 3 4 [0, 2, 3, 22] [(0, (.str (s))), (2, (.int .i64 0)), (3, (.int .i64 0)), (22, (.bool (decide ((↑(List.length s) : Int) ≤ 0))))] Heap.empty [] (by kernel_rfl) rfl .nil ?_
  refine Wl.done 4 rfl ?_
  refine Wc.seq ?_
  refine Wc.whole (b := (base 13 80)) [0, 2, 3, 4, 22] [(0, (.str (s))), (2, (.int .i64 0)), (3, (.int .i64 0)), (4, (.int .i64 (byteAt s 0))), (22, (.bool (decide ((↑(List.length s) : Int) ≤ 0))))] Heap.empty [(((0 : Int) ≤ (0 : Int)) ∧ ((0 : Int) < (↑(List.length s) : Int))), (((-9223372036854775808 : Int) ≤ byteAt s (0 : Int)) ∧ (byteAt s (0 : Int) ≤ (9223372036854775807 : Int)))] (by kernel_rfl) (.cons (by omega) (.cons (by omega) .nil)) ?_
  refine Wc.seq ?_
  refine Wc.seq ?_
  refine Wc.whole (b := (base 13 80)) [0, 2, 3, 4, 22, 30] [(0, (.str (s))), (2, (.int .i64 0)), (3, (.int .i64 0)), (4, (.int .i64 (byteAt s 0))), (22, (.bool (decide ((↑(List.length s) : Int) ≤ 0)))), (30, (.bool false))] Heap.empty [] (by kernel_rfl) .nil ?_
  refine Wc.condF (by kernel_rfl) (by kernel_rfl) ?_
  refine Wc.skip ?_
  refine Wc.seq ?_
  refine Wc.seq ?_
  refine Wc.whole (b := (base 13 80)) [0, 2, 3, 4, 5, 22, 30] [(0, (.str (s))), (2, (.int .i64 0)), (3, (.int .i64 0)), (4, (.int .i64 (byteAt s 0))), (5, (.int .i64 1)), (22, (.bool (decide ((↑(List.length s) : Int) ≤ 0)))), (30, (.bool false))] Heap.empty [] (by kernel_rfl) .nil ?_
  refine Wc.block ?_
  refine Wc.unroll ?_
  refine Wc.seq ?_
  refine Wc.seq ?_
  refine Wc.whole (b := (base 13 80)) [0, 2, 3, 4, 5, 22, 30, 38] [(0, (.str (s))), (2, (.int .i64 0)), (3, (.int .i64 0)), (4, (.int .i64 (byteAt s 0))), (5, (.int .i64 1)), (22, (.bool (decide ((↑(List.length s) : Int) ≤ 0)))), (30, (.bool false)), (38, (.bool false))] Heap.empty [] (by kernel_rfl) .nil ?_
  refine Wc.condF (by kernel_rfl) (by kernel_rfl) ?_
  refine Wc.exit ?_
  refine blockX.here ?_
  refine Wc.seq ?_
  refine Wc.whole (b := (base 13 80)) [0, 2, 3, 4, 5, 6, 22, 30, 38] [(0, (.str (s))), (2, (.int .i64 0)), (3, (.int .i64 0)), (4, (.int .i64 (byteAt s 0))), (5, (.int .i64 1)), (6, (.int .i64 0)), (22, (.bool (decide ((↑(List.length s) : Int) ≤ 0)))), (30, (.bool false)), (38, (.bool false))] Heap.empty [(((0 : Int) ≤ (0 : Int)) ∧ ((0 : Int) < (4 : Int)))] (by kernel_rfl) (.cons (by omega) .nil) ?_
  refine Wc.seq ?_
  refine Wc.seq ?_
  refine Wc.enter ?_
  refine Wl.batch (b := (base 13 80)) 0 7 [0, 2, 3, 4, 5, 6, 22, 30, 38, 66, 69] [(0, (.str (s))), (2, (.int .i64 0)), (3, (.int .i64 0)), (4, (.int .i64 (byteAt s 0))), (5, (.int .i64 1)), (6, (.int .i64 0)), (22, (.bool (decide ((↑(List.length s) : Int) ≤ 0)))), (30, (.bool false)), (38, (.bool false)), (66, (.bool false)), (69, (.bool (decide (55296 ≤ byteAt s 0))))] Heap.empty [] (by kernel_rfl) rfl .nil ?_
  refine Wl.known [(0, (.str (s))), (2, (.int .i64 0)), (3, (.int .i64 0)), (4, (.int .i64 (byteAt s 0))), (5, (.int .i64 1)), (6, (.int .i64 0)), (22, (.bool (decide ((↑(List.length s) : Int) ≤ 0)))), (30, (.bool false)), (38, (.bool false)), (66, (.bool false)), (69, (.bool false))] (by have e := decide_eq_false (show ¬ (55296 ≤ byteAt s 0) from (by omega)); rw [e] <;> rfl) ?_
  refine Wl.batch (b := (base 13 80)) 7 15 [0, 2, 3, 4, 5, 6, 22, 30, 38, 77] [(0, (.str (s))), (2, (.int .i64 0)), (3, (.int .i64 0)), (4, (.int .i64 (byteAt s 0))), (5, (.int .i64 1)), (6, (.int .i64 0)), (22, (.bool (decide ((↑(List.length s) : Int) ≤ 0)))), (30, (.bool false)), (38, (.bool false)), (77, (.bool (decide (1114111 < byteAt s 0))))] Heap.empty [] (by kernel_rfl) rfl .nil ?_
  refine Wl.done 15 rfl ?_
  refine Wc.condP (p := 1114111 < byteAt s 0) (by kernel_rfl) (by kernel_rfl) (fun c4 => absurd c4 (show ¬ (1114111 < byteAt s 0) from (by omega))) (fun c4 => ?_)
  refine Wc.skip ?_
  refine Wc.seq ?_
  refine Wc.whole (b := (base 13 80)) [0, 2, 3, 4, 5, 6, 22, 30, 38, 77] [(0, (.str (s))), (2, (.int .i64 1)), (3, (.int .i64 0)), (4, (.int .i64 (byteAt s 0))), (5, (.int .i64 1)), (6, (.int .i64 0)), (22, (.bool (decide ((↑(List.length s) : Int) ≤ 0)))), (30, (.bool false)), (38, (.bool false)), (77, (.bool (decide (1114111 < byteAt s 0))))] Heap.empty [(((-9223372036854775808 : Int) ≤ (1 : Int)) ∧ ((1 : Int) ≤ (9223372036854775807 : Int)))] (by kernel_rfl) (.cons (by omega) .nil) ?_
  refine Wc.ret ?_
  refine retX.mk (.int .i64 1) ⟨rfl, rfl⟩ (by kernel_rfl) ?_
  kernel_rfl
theorem c33_1 (s : List UInt8) (hs : s ≠ []) (hl : 1 < s.length) (h : 194 ≤ byteAt s 0 ∧ byteAt s 0 ≤ 223) : Cp Tryd.prog EU 13 [.str s] (.int .i64 ((one s : Nat) : Int)) := by
  have h0 : 0 < s.length := List.length_pos_iff.2 hs
  have hs' : ¬ s = [] := hs
  have hn : moreI (byteAt s 0) = 1 := by
    unfold moreI
    repeat' split
    all_goals omega
  have hc := c39 (byteAt s 0)
  rw [hn] at hc
  have e0 : byteAt s 0 = (atN s 0 : Int) := rfl
  have e1 : byteAt s 1 = (atN s 1 : Int) := rfl
  have e2 : byteAt s 2 = (atN s 2 : Int) := rfl
  have e3 : byteAt s 3 = (atN s 3 : Int) := rfl
  have q0 := atN_lt s 0
  have q1 := atN_lt s 1
  have q2 := atN_lt s 2
  have q3 := atN_lt s 3
  have ho := one_eq hs
  rw [oneG_1 (by omega)] at ho
  simp only [decide_eq_true_eq] at ho
  refine Cp.body (fn := Tryd.f13) Tryd.func13 rfl (by kernel_rfl) ?_
  refine Wc.seq ?_
  refine Wc.whole (b := (base 13 80)) [0, 2] [(0, (.str (s))), (2, (.int .i64 0))] Heap.empty [] (by kernel_rfl) .nil ?_
  refine Wc.seq ?_
  refine Wc.seq ?_
  refine Wc.enter ?_
  refine Wl.batch (b := (base 13 80)) 0 3 [0, 2, 9] [(0, (.str (s))), (2, (.int .i64 0)), (9, (.bool (decide (s = []))))] Heap.empty [] (by kernel_rfl) rfl .nil ?_
  refine Wl.known [(0, (.str (s))), (2, (.int .i64 0)), (9, (.bool false))] (by have e := decide_eq_false (show ¬ (s = []) from hs'); simp only [e] <;> rfl) ?_
  refine Wl.batch (b := (base 13 80)) 3 5 [0, 2, 9, 11] [(0, (.str (s))), (2, (.int .i64 0)), (9, (.bool false)), (11, (.int .u8 (byteAt s 0)))] Heap.empty [(((0 : Int) ≤ (0 : Int)) ∧ ((0 : Int) < (↑(List.length s) : Int)))] (by kernel_rfl) rfl (.cons (by omega) .nil) ?_
  refine Wl.callP (b := (base 13 80)) (h1 := Heap.empty) (h2 := Heap.empty) (v := (.int .i64 1)) (d := (some 12)) 5 [0, 2, 9, 12] [(0, (.str (s))), (2, (.int .i64 0)), (9, (.bool false)), (12, (.int .i64 1))] (@hc) (by kernel_rfl) (by kernel_rfl) (by kernel_rfl) ?_
  refine Wl.batch (b := (base 13 80)) 6 11 [0, 2, 15, 17] [(0, (.str (s))), (2, (.int .i64 0)), (15, (.bool false)), (17, (.int .u8 (byteAt s 0)))] Heap.empty [(((0 : Int) ≤ (0 : Int)) ∧ ((0 : Int) < (↑(List.length s) : Int)))] (by kernel_rfl) rfl (.cons (by omega) .nil) ?_
  refine Wl.callP (b := (base 13 80)) (h1 := Heap.empty) (h2 := Heap.empty) (v := (.int .i64 1)) (d := (some 18)) 11 [0, 2, 15, 18] [(0, (.str (s))), (2, (.int .i64 0)), (15, (.bool false)), (18, (.int .i64 1))] (@hc) (by kernel_rfl) (by kernel_rfl) (by kernel_rfl) ?_
  refine Wl.batch (b := (base 13 80)) 12 16 [0, 2, 22] [(0, (.str (s))), (2, (.int .i64 0)), (22, (.bool (decide ((↑(List.length s) : Int) ≤ 1))))] Heap.empty [] (by kernel_rfl) rfl .nil ?_
  refine Wl.done 16 rfl ?_
  refine Wc.condP (p := (↑(List.length s) : Int) ≤ 1) (by kernel_rfl) (by kernel_rfl) (fun c2 => absurd c2 (show ¬ ((↑(List.length s) : Int) ≤ 1) from (by omega))) (fun c2 => ?_)
  refine Wc.skip ?_
  refine Wc.seq ?_
  refine Wc.enter ?_
  refine Wl.batch (b := (base 13 80)) 0 2 [0, 2, 22, 24] [(0, (.str (s))), (2, (.int .i64 0)), (22, (.bool (decide ((↑(List.length s) : Int) ≤ 1)))), (24, (.int .u8 (byteAt s 0)))] Heap.empty [(((0 : Int) ≤ (0 : Int)) ∧ ((0 : Int) < (↑(List.length s) : Int)))] (by kernel_rfl) rfl (.cons (by omega) .nil) ?_
  refine Wl.callP (b := (base 13 80)) (h1 := Heap.empty) (h2 := Heap.empty) (v := (.int .i64 1)) (d := (some 25)) 2 [0, 2, 22, 25] [(0, (.str (s))), (2, (.int .i64 0)), (22, (.bool (decide ((↑(List.length s) : Int) ≤ 1)))), (25, (.int .i64 1))] (@hc) (by kernel_rfl) (by kernel_rfl) (by kernel_rfl) ?_
  refine Wl.batch (b := (base 13 80)) 3 4 [0, 2, 3, 22] [(0, (.str (s))), (2, (.int .i64 0)), (3, (.int .i64 1)), (22, (.bool (decide ((↑(List.length s) : Int) ≤ 1))))] Heap.empty [] (by kernel_rfl) rfl .nil ?_
  refine Wl.done 4 rfl ?_
  refine Wc.seq ?_
  refine Wc.whole (b := (base 13 80)) [0, 2, 3, 4, 22] [(0, (.str (s))), (2, (.int .i64 0)), (3, (.int .i64 1)), (4, (.int .i64 (byteAt s 0))), (22, (.bool (decide ((↑(List.length s) : Int) ≤ 1))))] Heap.empty [(((0 : Int) ≤ (0 : Int)) ∧ ((0 : Int) < (↑(List.length s) : Int))), (((-9223372036854775808 : Int) ≤ byteAt s (0 : Int)) ∧ (byteAt s (0 : Int) ≤ (9223372036854775807 : Int)))] (by kernel_rfl) (.cons (by omega) (.cons (by omega) .nil)) ?_
  refine Wc.seq ?_
  refine Wc.seq ?_
  refine Wc.whole (b := (base 13 80)) [0, 2, 3, 4, 22, 30] [(0, (.str (s))), (2, (.int .i64 0)), (3, (.int .i64 1)), (4, (.int .i64 (byteAt s 0))), (22, (.bool (decide ((↑(List.length s) : Int) ≤ 1)))), (30, (.bool true))] Heap.empty [] (by kernel_rfl) .nil ?_
  refine Wc.condT (by kernel_rfl) (by kernel_rfl) ?_
  refine Wc.whole (b := (base 13 80)) [0, 2, 3, 4, 22, 30] [(0, (.str (s))), (2, (.int .i64 0)), (3, (.int .i64 1)), (4, (.int .i64 (byteAt s 0 % 32))), (22, (.bool (decide ((↑(List.length s) : Int) ≤ 1)))), (30, (.bool true))] Heap.empty [(((0 : Int) ≤ (1 : Int)) ∧ ((1 : Int) ≤ (18446744073709551615 : Int))), (((0 : Int) ≤ byteAt s (0 : Int)) ∧ ((0 : Int) < (32 : Int)))] (by kernel_rfl) (.cons (by omega) (.cons (by omega) .nil)) ?_
  refine Wc.seq ?_
  refine Wc.seq ?_
  refine Wc.whole (b := (base 13 80)) [0, 2, 3, 4, 5, 22, 30] [(0, (.str (s))), (2, (.int .i64 0)), (3, (.int .i64 1)), (4, (.int .i64 (byteAt s 0 % 32))), (5, (.int .i64 1)), (22, (.bool (decide ((↑(List.length s) : Int) ≤ 1)))), (30, (.bool true))] Heap.empty [] (by kernel_rfl) .nil ?_
  refine Wc.block ?_
  refine Wc.unroll ?_
  refine Wc.seq ?_
  refine Wc.seq ?_
  refine Wc.whole (b := (base 13 80)) [0, 2, 3, 4, 5, 22, 30, 38] [(0, (.str (s))), (2, (.int .i64 0)), (3, (.int .i64 1)), (4, (.int .i64 (byteAt s 0 % 32))), (5, (.int .i64 1)), (22, (.bool (decide ((↑(List.length s) : Int) ≤ 1)))), (30, (.bool true)), (38, (.bool true))] Heap.empty [] (by kernel_rfl) .nil ?_
  refine Wc.condT (by kernel_rfl) (by kernel_rfl) ?_
  refine Wc.skip ?_
  refine Wc.seq ?_
  refine Wc.block ?_
  refine Wc.seq ?_
  refine Wc.seq ?_
  refine Wc.enter ?_
  refine Wl.batch (b := (base 13 80)) 0 5 [0, 2, 3, 4, 5, 22, 30, 38, 45] [(0, (.str (s))), (2, (.int .i64 0)), (3, (.int .i64 1)), (4, (.int .i64 (byteAt s 0 % 32))), (5, (.int .i64 1)), (22, (.bool (decide ((↑(List.length s) : Int) ≤ 1)))), (30, (.bool true)), (38, (.bool true)), (45, (.bool (decide (byteAt s 1 < 128))))] Heap.empty [(((0 : Int) ≤ (1 : Int)) ∧ ((1 : Int) < (↑(List.length s) : Int)))] (by kernel_rfl) rfl (.cons (by omega) .nil) ?_
  by_cases ga3 : byteAt s 1 < 128
  · refine Wl.known [(0, (.str (s))), (2, (.int .i64 0)), (3, (.int .i64 1)), (4, (.int .i64 (byteAt s 0 % 32))), (5, (.int .i64 1)), (22, (.bool (decide ((↑(List.length s) : Int) ≤ 1)))), (30, (.bool true)), (38, (.bool true)), (45, (.bool true))] (by have e := decide_eq_true (show byteAt s 1 < 128 from ga3); simp only [e] <;> rfl) ?_
    refine Wl.batch (b := (base 13 80)) 5 10 [0, 2, 3, 4, 5, 22, 30, 38, 50] [(0, (.str (s))), (2, (.int .i64 0)), (3, (.int .i64 1)), (4, (.int .i64 (byteAt s 0 % 32))), (5, (.int .i64 1)), (22, (.bool (decide ((↑(List.length s) : Int) ≤ 1)))), (30, (.bool true)), (38, (.bool true)), (50, (.bool true))] Heap.empty [] (by kernel_rfl) rfl .nil ?_
    refine Wl.done 10 rfl ?_
    refine Wc.condT (by kernel_rfl) (by kernel_rfl) ?_
    refine Wc.seq ?_
    refine Wc.whole (b := (base 13 80)) [0, 2, 3, 4, 5, 22, 30, 38, 50] [(0, (.str (s))), (2, (.int .i64 0)), (3, (.int .i64 1)), (4, (.int .i64 (byteAt s 0 % 32))), (5, (.int .i64 1)), (22, (.bool (decide ((↑(List.length s) : Int) ≤ 1)))), (30, (.bool true)), (38, (.bool true)), (50, (.bool true))] Heap.empty [] (by kernel_rfl) .nil ?_
    refine Wc.ret ?_
    refine blockX.ret ?_
    refine blockX.ret ?_
    refine retX.mk (.int .i64 0) ⟨rfl, rfl⟩ (by kernel_rfl) ?_
    have e : one s = 0 := by rw [ho, if_neg (by omega)]
    rw [e]; rfl
  · refine Wl.known [(0, (.str (s))), (2, (.int .i64 0)), (3, (.int .i64 1)), (4, (.int .i64 (byteAt s 0 % 32))), (5, (.int .i64 1)), (22, (.bool (decide ((↑(List.length s) : Int) ≤ 1)))), (30, (.bool true)), (38, (.bool true)), (45, (.bool false))] (by have e := decide_eq_false (show ¬ (byteAt s 1 < 128) from ga3); simp only [e] <;> rfl) ?_
    refine Wl.batch (b := (base 13 80)) 5 10 [0, 2, 3, 4, 5, 22, 30, 38, 50] [(0, (.str (s))), (2, (.int .i64 0)), (3, (.int .i64 1)), (4, (.int .i64 (byteAt s 0 % 32))), (5, (.int .i64 1)), (22, (.bool (decide ((↑(List.length s) : Int) ≤ 1)))), (30, (.bool true)), (38, (.bool true)), (50, (.bool (decide (191 < byteAt s 1))))] Heap.empty [(((0 : Int) ≤ (1 : Int)) ∧ ((1 : Int) < (↑(List.length s) : Int)))] (by kernel_rfl) rfl (.cons (by omega) .nil) ?_
    refine Wl.done 10 rfl ?_
    refine Wc.condP (p := 191 < byteAt s 1) (by kernel_rfl) (by kernel_rfl) (fun c2 => ?_) (fun c2 => ?_)
    · refine Wc.seq ?_
      refine Wc.whole (b := (base 13 80)) [0, 2, 3, 4, 5, 22, 30, 38, 50] [(0, (.str (s))), (2, (.int .i64 0)), (3, (.int .i64 1)), (4, (.int .i64 (byteAt s 0 % 32))), (5, (.int .i64 1)), (22, (.bool (decide ((↑(List.length s) : Int) ≤ 1)))), (30, (.bool true)), (38, (.bool true)), (50, (.bool (decide (191 < byteAt s 1))))] Heap.empty [] (by kernel_rfl) .nil ?_
      refine Wc.ret ?_
      refine blockX.ret ?_
      refine blockX.ret ?_
      refine retX.mk (.int .i64 0) ⟨rfl, rfl⟩ (by kernel_rfl) ?_
      have e : one s = 0 := by rw [ho, if_neg (by omega)]
      rw [e]; rfl
    · refine Wc.skip ?_
      refine Wc.whole (b := (base 13 80)) [0, 2, 3, 4, 5, 22, 30, 38, 50] [(0, (.str (s))), (2, (.int .i64 0)), (3, (.int .i64 1)), (4, (.int .i64 (64 * (byteAt s 0 % 32) + byteAt s 1 % 64))), (5, (.int .i64 1)), (22, (.bool (decide ((↑(List.length s) : Int) ≤ 1)))), (30, (.bool true)), (38, (.bool true)), (50, (.bool (decide (191 < byteAt s 1))))] Heap.empty [(((-9223372036854775808 : Int) ≤ (64 : Int) * (byteAt s (0 : Int) % (32 : Int))) ∧ ((64 : Int) * (byteAt s (0 : Int) % (32 : Int)) ≤ (9223372036854775807 : Int))), (((0 : Int) ≤ (1 : Int)) ∧ ((1 : Int) < (↑(List.length s) : Int))), (((0 : Int) ≤ byteAt s (1 : Int)) ∧ ((0 : Int) < (64 : Int))), (((-9223372036854775808 : Int) ≤ byteAt s (1 : Int) % (64 : Int)) ∧ (byteAt s (1 : Int) % (64 : Int) ≤ (9223372036854775807 : Int))), (((-9223372036854775808 : Int) ≤ (64 : Int) * (byteAt s (0 : Int) % (32 : Int)) + byteAt s (1 : Int) % (64 : Int)) ∧ ((64 : Int) * (byteAt s (0 : Int) % (32 : Int)) + byteAt s (1 : Int) % (64 : Int) ≤ (9223372036854775807 : Int)))] (by kernel_rfl) (.cons (by omega) (.cons (by omega) (.cons (by omega) (.cons (by omega) (.cons (by omega) .nil))))) ?_
      refine Wc.whole (b := (base 13 80)) [0, 2, 3, 4, 5, 22, 30, 38, 50] [(0, (.str (s))), (2, (.int .i64 0)), (3, (.int .i64 1)), (4, (.int .i64 (64 * (byteAt s 0 % 32) + byteAt s 1 % 64))), (5, (.int .i64 2)), (22, (.bool (decide ((↑(List.length s) : Int) ≤ 1)))), (30, (.bool true)), (38, (.bool true)), (50, (.bool (decide (191 < byteAt s 1))))] Heap.empty [(((-9223372036854775808 : Int) ≤ (2 : Int)) ∧ ((2 : Int) ≤ (9223372036854775807 : Int)))] (by kernel_rfl) (.cons (by omega) .nil) ?_
      refine Wc.unroll ?_
      refine Wc.seq ?_
      refine Wc.seq ?_
      refine Wc.whole (b := (base 13 80)) [0, 2, 3, 4, 5, 22, 30, 38, 50] [(0, (.str (s))), (2, (.int .i64 0)), (3, (.int .i64 1)), (4, (.int .i64 (64 * (byteAt s 0 % 32) + byteAt s 1 % 64))), (5, (.int .i64 2)), (22, (.bool (decide ((↑(List.length s) : Int) ≤ 1)))), (30, (.bool true)), (38, (.bool false)), (50, (.bool (decide (191 < byteAt s 1))))] Heap.empty [] (by kernel_rfl) .nil ?_
      refine Wc.condF (by kernel_rfl) (by kernel_rfl) ?_
      refine Wc.exit ?_
      refine blockX.here ?_
      refine Wc.seq ?_
      refine Wc.whole (b := (base 13 80)) [0, 2, 3, 4, 5, 6, 22, 30, 38, 50] [(0, (.str (s))), (2, (.int .i64 0)), (3, (.int .i64 1)), (4, (.int .i64 (64 * (byteAt s 0 % 32) + byteAt s 1 % 64))), (5, (.int .i64 2)), (6, (.int .i64 128)), (22, (.bool (decide ((↑(List.length s) : Int) ≤ 1)))), (30, (.bool true)), (38, (.bool false)), (50, (.bool (decide (191 < byteAt s 1))))] Heap.empty [(((0 : Int) ≤ (1 : Int)) ∧ ((1 : Int) < (4 : Int)))] (by kernel_rfl) (.cons (by omega) .nil) ?_
      refine Wc.seq ?_
      refine Wc.seq ?_
      refine Wc.enter ?_
      refine Wl.batch (b := (base 13 80)) 0 4 [0, 2, 3, 4, 5, 6, 22, 30, 38, 50, 66] [(0, (.str (s))), (2, (.int .i64 0)), (3, (.int .i64 1)), (4, (.int .i64 (64 * (byteAt s 0 % 32) + byteAt s 1 % 64))), (5, (.int .i64 2)), (6, (.int .i64 128)), (22, (.bool (decide ((↑(List.length s) : Int) ≤ 1)))), (30, (.bool true)), (38, (.bool false)), (50, (.bool (decide (191 < byteAt s 1)))), (66, (.bool (decide (64 * (byteAt s 0 % 32) + byteAt s 1 % 64 < 128))))] Heap.empty [] (by kernel_rfl) rfl .nil ?_
      refine Wl.known [(0, (.str (s))), (2, (.int .i64 0)), (3, (.int .i64 1)), (4, (.int .i64 (64 * (byteAt s 0 % 32) + byteAt s 1 % 64))), (5, (.int .i64 2)), (6, (.int .i64 128)), (22, (.bool (decide ((↑(List.length s) : Int) ≤ 1)))), (30, (.bool true)), (38, (.bool false)), (50, (.bool (decide (191 < byteAt s 1)))), (66, (.bool false))] (by have e := decide_eq_false (show ¬ (64 * (byteAt s 0 % 32) + byteAt s 1 % 64 < 128) from (by omega)); simp only [e] <;> rfl) ?_
      refine Wl.batch (b := (base 13 80)) 4 7 [0, 2, 3, 4, 5, 6, 22, 30, 38, 50, 66, 69] [(0, (.str (s))), (2, (.int .i64 0)), (3, (.int .i64 1)), (4, (.int .i64 (64 * (byteAt s 0 % 32) + byteAt s 1 % 64))), (5, (.int .i64 2)), (6, (.int .i64 128)), (22, (.bool (decide ((↑(List.length s) : Int) ≤ 1)))), (30, (.bool true)), (38, (.bool false)), (50, (.bool (decide (191 < byteAt s 1)))), (66, (.bool false)), (69, (.bool (decide (55296 ≤ 64 * (byteAt s 0 % 32) + byteAt s 1 % 64))))] Heap.empty [] (by kernel_rfl) rfl .nil ?_
      refine Wl.known [(0, (.str (s))), (2, (.int .i64 0)), (3, (.int .i64 1)), (4, (.int .i64 (64 * (byteAt s 0 % 32) + byteAt s 1 % 64))), (5, (.int .i64 2)), (6, (.int .i64 128)), (22, (.bool (decide ((↑(List.length s) : Int) ≤ 1)))), (30, (.bool true)), (38, (.bool false)), (50, (.bool (decide (191 < byteAt s 1)))), (66, (.bool false)), (69, (.bool false))] (by have e := decide_eq_false (show ¬ (55296 ≤ 64 * (byteAt s 0 % 32) + byteAt s 1 % 64) from (by omega)); simp only [e] <;> rfl) ?_
      refine Wl.batch (b := (base 13 80)) 7 15 [0, 2, 3, 4, 5, 6, 22, 30, 38, 50, 77] [(0, (.str (s))), (2, (.int .i64 0)), (3, (.int .i64 1)), (4, (.int .i64 (64 * (byteAt s 0 % 32) + byteAt s 1 % 64))), (5, (.int .i64 2)), (6, (.int .i64 128)), (22, (.bool (decide ((↑(List.length s) : Int) ≤ 1)))), (30, (.bool true)), (38, (.bool false)), (50, (.bool (decide (191 < byteAt s 1)))), (77, (.bool (decide (1114111 < 64 * (byteAt s 0 % 32) + byteAt s 1 % 64))))] Heap.empty [] (by kernel_rfl) rfl .nil ?_
      refine Wl.done 15 rfl ?_
      refine Wc.condP (p := 1114111 < 64 * (byteAt s 0 % 32) + byteAt s 1 % 64) (by kernel_rfl) (by kernel_rfl) (fun c5 => absurd c5 (show ¬ (1114111 < 64 * (byteAt s 0 % 32) + byteAt s 1 % 64) from (by omega))) (fun c5 => ?_)
      refine Wc.skip ?_
      refine Wc.seq ?_
      refine Wc.whole (b := (base 13 80)) [0, 2, 3, 4, 5, 6, 22, 30, 38, 50, 77] [(0, (.str (s))), (2, (.int .i64 2)), (3, (.int .i64 1)), (4, (.int .i64 (64 * (byteAt s 0 % 32) + byteAt s 1 % 64))), (5, (.int .i64 2)), (6, (.int .i64 128)), (22, (.bool (decide ((↑(List.length s) : Int) ≤ 1)))), (30, (.bool true)), (38, (.bool false)), (50, (.bool (decide (191 < byteAt s 1)))), (77, (.bool (decide (1114111 < 64 * (byteAt s 0 % 32) + byteAt s 1 % 64))))] Heap.empty [(((-9223372036854775808 : Int) ≤ (2 : Int)) ∧ ((2 : Int) ≤ (9223372036854775807 : Int)))] (by kernel_rfl) (.cons (by omega) .nil) ?_
      refine Wc.ret ?_
      refine retX.mk (.int .i64 2) ⟨rfl, rfl⟩ (by kernel_rfl) ?_
      have e : one s = 2 := by rw [ho, if_pos (by omega)]
      rw [e]; rfl
theorem c33_2 (s : List UInt8) (hs : s ≠ []) (hl : 2 < s.length) (h : 224 ≤ byteAt s 0 ∧ byteAt s 0 ≤ 239) : Cp Tryd.prog EU 13 [.str s] (.int .i64 ((one s : Nat) : Int)) := by
  have h0 : 0 < s.length := List.length_pos_iff.2 hs
  have hs' : ¬ s = [] := hs
  have hn : moreI (byteAt s 0) = 2 := by
    unfold moreI
    repeat' split
    all_goals omega
  have hc := c39 (byteAt s 0)
  rw [hn] at hc
  have e0 : byteAt s 0 = (atN s 0 : Int) := rfl
  have e1 : byteAt s 1 = (atN s 1 : Int) := rfl
  have e2 : byteAt s 2 = (atN s 2 : Int) := rfl
  have e3 : byteAt s 3 = (atN s 3 : Int) := rfl
  have q0 := atN_lt s 0
  have q1 := atN_lt s 1
  have q2 := atN_lt s 2
  have q3 := atN_lt s 3
  have ho := one_eq hs
  rw [oneG_2 (by omega)] at ho
  simp only [decide_eq_true_eq] at ho
  refine Cp.body (fn := Tryd.f13) Tryd.func13 rfl (by kernel_rfl) ?_
  refine Wc.seq ?_
  refine Wc.whole (b := (base 13 80)) [0, 2] [(0, (.str (s))), (2, (.int .i64 0))] Heap.empty [] (by kernel_rfl) .nil ?_
  refine Wc.seq ?_
  refine Wc.seq ?_
  refine Wc.enter ?_
  refine Wl.batch (b := (base 13 80)) 0 3 [0, 2, 9] [(0, (.str (s))), (2, (.int .i64 0)), (9, (.bool (decide (s = []))))] Heap.empty [] (by kernel_rfl) rfl .nil ?_
  refine Wl.known [(0, (.str (s))), (2, (.int .i64 0)), (9, (.bool false))] (by have e := decide_eq_false (show ¬ (s = []) from hs'); simp only [e] <;> rfl) ?_
  refine Wl.batch (b := (base 13 80)) 3 5 [0, 2, 9, 11] [(0, (.str (s))), (2, (.int .i64 0)), (9, (.bool false)), (11, (.int .u8 (byteAt s 0)))] Heap.empty [(((0 : Int) ≤ (0 : Int)) ∧ ((0 : Int) < (↑(List.length s) : Int)))] (by kernel_rfl) rfl (.cons (by omega) .nil) ?_
  refine Wl.callP (b := (base 13 80)) (h1 := Heap.empty) (h2 := Heap.empty) (v := (.int .i64 2)) (d := (some 12)) 5 [0, 2, 9, 12] [(0, (.str (s))), (2, (.int .i64 0)), (9, (.bool false)), (12, (.int .i64 2))] (@hc) (by kernel_rfl) (by kernel_rfl) (by kernel_rfl) ?_
  refine Wl.batch (b := (base 13 80)) 6 11 [0, 2, 15, 17] [(0, (.str (s))), (2, (.int .i64 0)), (15, (.bool false)), (17, (.int .u8 (byteAt s 0)))] Heap.empty [(((0 : Int) ≤ (0 : Int)) ∧ ((0 : Int) < (↑(List.length s) : Int)))] (by kernel_rfl) rfl (.cons (by omega) .nil) ?_
  refine Wl.callP (b := (base 13 80)) (h1 := Heap.empty) (h2 := Heap.empty) (v := (.int .i64 2)) (d := (some 18)) 11 [0, 2, 15, 18] [(0, (.str (s))), (2, (.int .i64 0)), (15, (.bool false)), (18, (.int .i64 2))] (@hc) (by kernel_rfl) (by kernel_rfl) (by kernel_rfl) ?_
  refine Wl.batch (b := (base 13 80)) 12 16 [0, 2, 22] [(0, (.str (s))), (2, (.int .i64 0)), (22, (.bool (decide ((↑(List.length s) : Int) ≤ 2))))] Heap.empty [] (by kernel_rfl) rfl .nil ?_
  refine Wl.done 16 rfl ?_
  refine Wc.condP (p := (↑(List.length s) : Int) ≤ 2) (by kernel_rfl) (by kernel_rfl) (fun c2 => absurd c2 (show ¬ ((↑(List.length s) : Int) ≤ 2) from (by omega))) (fun c2 => ?_)
  refine Wc.skip ?_
  refine Wc.seq ?_
  refine Wc.enter ?_
  refine Wl.batch (b := (base 13 80)) 0 2 [0, 2, 22, 24] [(0, (.str (s))), (2, (.int .i64 0)), (22, (.bool (decide ((↑(List.length s) : Int) ≤ 2)))), (24, (.int .u8 (byteAt s 0)))] Heap.empty [(((0 : Int) ≤ (0 : Int)) ∧ ((0 : Int) < (↑(List.length s) : Int)))] (by kernel_rfl) rfl (.cons (by omega) .nil) ?_
  refine Wl.callP (b := (base 13 80)) (h1 := Heap.empty) (h2 := Heap.empty) (v := (.int .i64 2)) (d := (some 25)) 2 [0, 2, 22, 25] [(0, (.str (s))), (2, (.int .i64 0)), (22, (.bool (decide ((↑(List.length s) : Int) ≤ 2)))), (25, (.int .i64 2))] (@hc) (by kernel_rfl) (by kernel_rfl) (by kernel_rfl) ?_
  refine Wl.batch (b := (base 13 80)) 3 4 [0, 2, 3, 22] [(0, (.str (s))), (2, (.int .i64 0)), (3, (.int .i64 2)), (22, (.bool (decide ((↑(List.length s) : Int) ≤ 2))))] Heap.empty [] (by kernel_rfl) rfl .nil ?_
  refine Wl.done 4 rfl ?_
  refine Wc.seq ?_
  refine Wc.whole (b := (base 13 80)) [0, 2, 3, 4, 22] [(0, (.str (s))), (2, (.int .i64 0)), (3, (.int .i64 2)), (4, (.int .i64 (byteAt s 0))), (22, (.bool (decide ((↑(List.length s) : Int) ≤ 2))))] Heap.empty [(((0 : Int) ≤ (0 : Int)) ∧ ((0 : Int) < (↑(List.length s) : Int))), (((-9223372036854775808 : Int) ≤ byteAt s (0 : Int)) ∧ (byteAt s (0 : Int) ≤ (9223372036854775807 : Int)))] (by kernel_rfl) (.cons (by omega) (.cons (by omega) .nil)) ?_
  refine Wc.seq ?_
  refine Wc.seq ?_
  refine Wc.whole (b := (base 13 80)) [0, 2, 3, 4, 22, 30] [(0, (.str (s))), (2, (.int .i64 0)), (3, (.int .i64 2)), (4, (.int .i64 (byteAt s 0))), (22, (.bool (decide ((↑(List.length s) : Int) ≤ 2)))), (30, (.bool true))] Heap.empty [] (by kernel_rfl) .nil ?_
  refine Wc.condT (by kernel_rfl) (by kernel_rfl) ?_
  refine Wc.whole (b := (base 13 80)) [0, 2, 3, 4, 22, 30] [(0, (.str (s))), (2, (.int .i64 0)), (3, (.int .i64 2)), (4, (.int .i64 (byteAt s 0 % 16))), (22, (.bool (decide ((↑(List.length s) : Int) ≤ 2)))), (30, (.bool true))] Heap.empty [(((0 : Int) ≤ (2 : Int)) ∧ ((2 : Int) ≤ (18446744073709551615 : Int))), (((0 : Int) ≤ byteAt s (0 : Int)) ∧ ((0 : Int) < (16 : Int)))] (by kernel_rfl) (.cons (by omega) (.cons (by omega) .nil)) ?_
  refine Wc.seq ?_
  refine Wc.seq ?_
  refine Wc.whole (b := (base 13 80)) [0, 2, 3, 4, 5, 22, 30] [(0, (.str (s))), (2, (.int .i64 0)), (3, (.int .i64 2)), (4, (.int .i64 (byteAt s 0 % 16))), (5, (.int .i64 1)), (22, (.bool (decide ((↑(List.length s) : Int) ≤ 2)))), (30, (.bool true))] Heap.empty [] (by kernel_rfl) .nil ?_
  refine Wc.block ?_
  refine Wc.unroll ?_
  refine Wc.seq ?_
  refine Wc.seq ?_
  refine Wc.whole (b := (base 13 80)) [0, 2, 3, 4, 5, 22, 30, 38] [(0, (.str (s))), (2, (.int .i64 0)), (3, (.int .i64 2)), (4, (.int .i64 (byteAt s 0 % 16))), (5, (.int .i64 1)), (22, (.bool (decide ((↑(List.length s) : Int) ≤ 2)))), (30, (.bool true)), (38, (.bool true))] Heap.empty [] (by kernel_rfl) .nil ?_
  refine Wc.condT (by kernel_rfl) (by kernel_rfl) ?_
  refine Wc.skip ?_
  refine Wc.seq ?_
  refine Wc.block ?_
  refine Wc.seq ?_
  refine Wc.seq ?_
  refine Wc.enter ?_
  refine Wl.batch (b := (base 13 80)) 0 5 [0, 2, 3, 4, 5, 22, 30, 38, 45] [(0, (.str (s))), (2, (.int .i64 0)), (3, (.int .i64 2)), (4, (.int .i64 (byteAt s 0 % 16))), (5, (.int .i64 1)), (22, (.bool (decide ((↑(List.length s) : Int) ≤ 2)))), (30, (.bool true)), (38, (.bool true)), (45, (.bool (decide (byteAt s 1 < 128))))] Heap.empty [(((0 : Int) ≤ (1 : Int)) ∧ ((1 : Int) < (↑(List.length s) : Int)))] (by kernel_rfl) rfl (.cons (by omega) .nil) ?_
  by_cases ga2 : byteAt s 1 < 128
  · refine Wl.known [(0, (.str (s))), (2, (.int .i64 0)), (3, (.int .i64 2)), (4, (.int .i64 (byteAt s 0 % 16))), (5, (.int .i64 1)), (22, (.bool (decide ((↑(List.length s) : Int) ≤ 2)))), (30, (.bool true)), (38, (.bool true)), (45, (.bool true))] (by have e := decide_eq_true (show byteAt s 1 < 128 from ga2); simp only [e] <;> rfl) ?_
    refine Wl.batch (b := (base 13 80)) 5 10 [0, 2, 3, 4, 5, 22, 30, 38, 50] [(0, (.str (s))), (2, (.int .i64 0)), (3, (.int .i64 2)), (4, (.int .i64 (byteAt s 0 % 16))), (5, (.int .i64 1)), (22, (.bool (decide ((↑(List.length s) : Int) ≤ 2)))), (30, (.bool true)), (38, (.bool true)), (50, (.bool true))] Heap.empty [] (by kernel_rfl) rfl .nil ?_
    refine Wl.done 10 rfl ?_
    refine Wc.condT (by kernel_rfl) (by kernel_rfl) ?_
    refine Wc.seq ?_
    refine Wc.whole (b := (base 13 80)) [0, 2, 3, 4, 5, 22, 30, 38, 50] [(0, (.str (s))), (2, (.int .i64 0)), (3, (.int .i64 2)), (4, (.int .i64 (byteAt s 0 % 16))), (5, (.int .i64 1)), (22, (.bool (decide ((↑(List.length s) : Int) ≤ 2)))), (30, (.bool true)), (38, (.bool true)), (50, (.bool true))] Heap.empty [] (by kernel_rfl) .nil ?_
    refine Wc.ret ?_
    refine blockX.ret ?_
    refine blockX.ret ?_
    refine retX.mk (.int .i64 0) ⟨rfl, rfl⟩ (by kernel_rfl) ?_
    have e : one s = 0 := by rw [ho, if_neg (by omega)]
    rw [e]; rfl
  · refine Wl.known [(0, (.str (s))), (2, (.int .i64 0)), (3, (.int .i64 2)), (4, (.int .i64 (byteAt s 0 % 16))), (5, (.int .i64 1)), (22, (.bool (decide ((↑(List.length s) : Int) ≤ 2)))), (30, (.bool true)), (38, (.bool true)), (45, (.bool false))] (by have e := decide_eq_false (show ¬ (byteAt s 1 < 128) from ga2); simp only [e] <;> rfl) ?_
    refine Wl.batch (b := (base 13 80)) 5 10 [0, 2, 3, 4, 5, 22, 30, 38, 50] [(0, (.str (s))), (2, (.int .i64 0)), (3, (.int .i64 2)), (4, (.int .i64 (byteAt s 0 % 16))), (5, (.int .i64 1)), (22, (.bool (decide ((↑(List.length s) : Int) ≤ 2)))), (30, (.bool true)), (38, (.bool true)), (50, (.bool (decide (191 < byteAt s 1))))] Heap.empty [(((0 : Int) ≤ (1 : Int)) ∧ ((1 : Int) < (↑(List.length s) : Int)))] (by kernel_rfl) rfl (.cons (by omega) .nil) ?_
    refine Wl.done 10 rfl ?_
    refine Wc.condP (p := 191 < byteAt s 1) (by kernel_rfl) (by kernel_rfl) (fun c2 => ?_) (fun c2 => ?_)
    · refine Wc.seq ?_
      refine Wc.whole (b := (base 13 80)) [0, 2, 3, 4, 5, 22, 30, 38, 50] [(0, (.str (s))), (2, (.int .i64 0)), (3, (.int .i64 2)), (4, (.int .i64 (byteAt s 0 % 16))), (5, (.int .i64 1)), (22, (.bool (decide ((↑(List.length s) : Int) ≤ 2)))), (30, (.bool true)), (38, (.bool true)), (50, (.bool (decide (191 < byteAt s 1))))] Heap.empty [] (by kernel_rfl) .nil ?_
      refine Wc.ret ?_
      refine blockX.ret ?_
      refine blockX.ret ?_
      refine retX.mk (.int .i64 0) ⟨rfl, rfl⟩ (by kernel_rfl) ?_
      have e : one s = 0 := by rw [ho, if_neg (by omega)]
      rw [e]; rfl
    · refine Wc.skip ?_
      refine Wc.whole (b := (base 13 80)) [0, 2, 3, 4, 5, 22, 30, 38, 50] [(0, (.str (s))), (2, (.int .i64 0)), (3, (.int .i64 2)), (4, (.int .i64 (64 * (byteAt s 0 % 16) + byteAt s 1 % 64))), (5, (.int .i64 1)), (22, (.bool (decide ((↑(List.length s) : Int) ≤ 2)))), (30, (.bool true)), (38, (.bool true)), (50, (.bool (decide (191 < byteAt s 1))))] Heap.empty [(((-9223372036854775808 : Int) ≤ (64 : Int) * (byteAt s (0 : Int) % (16 : Int))) ∧ ((64 : Int) * (byteAt s (0 : Int) % (16 : Int)) ≤ (9223372036854775807 : Int))), (((0 : Int) ≤ (1 : Int)) ∧ ((1 : Int) < (↑(List.length s) : Int))), (((0 : Int) ≤ byteAt s (1 : Int)) ∧ ((0 : Int) < (64 : Int))), (((-9223372036854775808 : Int) ≤ byteAt s (1 : Int) % (64 : Int)) ∧ (byteAt s (1 : Int) % (64 : Int) ≤ (9223372036854775807 : Int))), (((-9223372036854775808 : Int) ≤ (64 : Int) * (byteAt s (0 : Int) % (16 : Int)) + byteAt s (1 : Int) % (64 : Int)) ∧ ((64 : Int) * (byteAt s (0 : Int) % (16 : Int)) + byteAt s (1 : Int) % (64 : Int) ≤ (9223372036854775807 : Int)))] (by kernel_rfl) (.cons (by omega) (.cons (by omega) (.cons (by omega) (.cons (by omega) (.cons (by omega) .nil))))) ?_
      refine Wc.whole (b := (base 13 80)) [0, 2, 3, 4, 5, 22, 30, 38, 50] [(0, (.str (s))), (2, (.int .i64 0)), (3, (.int .i64 2)), (4, (.int .i64 (64 * (byteAt s 0 % 16) + byteAt s 1 % 64))), (5, (.int .i64 2)), (22, (.bool (decide ((↑(List.length s) : Int) ≤ 2)))), (30, (.bool true)), (38, (.bool true)), (50, (.bool (decide (191 < byteAt s 1))))] Heap.empty [(((-9223372036854775808 : Int) ≤ (2 : Int)) ∧ ((2 : Int) ≤ (9223372036854775807 : Int)))] (by kernel_rfl) (.cons (by omega) .nil) ?_
      refine Wc.unroll ?_
      refine Wc.seq ?_
      refine Wc.seq ?_
      refine Wc.whole (b := (base 13 80)) [0, 2, 3, 4, 5, 22, 30, 38, 50] [(0, (.str (s))), (2, (.int .i64 0)), (3, (.int .i64 2)), (4, (.int .i64 (64 * (byteAt s 0 % 16) + byteAt s 1 % 64))), (5, (.int .i64 2)), (22, (.bool (decide ((↑(List.length s) : Int) ≤ 2)))), (30, (.bool true)), (38, (.bool true)), (50, (.bool (decide (191 < byteAt s 1))))] Heap.empty [] (by kernel_rfl) .nil ?_
      refine Wc.condT (by kernel_rfl) (by kernel_rfl) ?_
      refine Wc.skip ?_
      refine Wc.seq ?_
      refine Wc.block ?_
      refine Wc.seq ?_
      refine Wc.seq ?_
      refine Wc.enter ?_
      refine Wl.batch (b := (base 13 80)) 0 5 [0, 2, 3, 4, 5, 22, 30, 38, 45, 50] [(0, (.str (s))), (2, (.int .i64 0)), (3, (.int .i64 2)), (4, (.int .i64 (64 * (byteAt s 0 % 16) + byteAt s 1 % 64))), (5, (.int .i64 2)), (22, (.bool (decide ((↑(List.length s) : Int) ≤ 2)))), (30, (.bool true)), (38, (.bool true)), (45, (.bool (decide (byteAt s 2 < 128)))), (50, (.bool (decide (191 < byteAt s 1))))] Heap.empty [(((0 : Int) ≤ (2 : Int)) ∧ ((2 : Int) < (↑(List.length s) : Int)))] (by kernel_rfl) rfl (.cons (by omega) .nil) ?_
      by_cases gb5 : byteAt s 2 < 128
      · refine Wl.known [(0, (.str (s))), (2, (.int .i64 0)), (3, (.int .i64 2)), (4, (.int .i64 (64 * (byteAt s 0 % 16) + byteAt s 1 % 64))), (5, (.int .i64 2)), (22, (.bool (decide ((↑(List.length s) : Int) ≤ 2)))), (30, (.bool true)), (38, (.bool true)), (45, (.bool true)), (50, (.bool (decide (191 < byteAt s 1))))] (by have e := decide_eq_true (show byteAt s 2 < 128 from gb5); simp only [e] <;> rfl) ?_
        refine Wl.batch (b := (base 13 80)) 5 10 [0, 2, 3, 4, 5, 22, 30, 38, 50] [(0, (.str (s))), (2, (.int .i64 0)), (3, (.int .i64 2)), (4, (.int .i64 (64 * (byteAt s 0 % 16) + byteAt s 1 % 64))), (5, (.int .i64 2)), (22, (.bool (decide ((↑(List.length s) : Int) ≤ 2)))), (30, (.bool true)), (38, (.bool true)), (50, (.bool true))] Heap.empty [] (by kernel_rfl) rfl .nil ?_
        refine Wl.done 10 rfl ?_
        refine Wc.condT (by kernel_rfl) (by kernel_rfl) ?_
        refine Wc.seq ?_
        refine Wc.whole (b := (base 13 80)) [0, 2, 3, 4, 5, 22, 30, 38, 50] [(0, (.str (s))), (2, (.int .i64 0)), (3, (.int .i64 2)), (4, (.int .i64 (64 * (byteAt s 0 % 16) + byteAt s 1 % 64))), (5, (.int .i64 2)), (22, (.bool (decide ((↑(List.length s) : Int) ≤ 2)))), (30, (.bool true)), (38, (.bool true)), (50, (.bool true))] Heap.empty [] (by kernel_rfl) .nil ?_
        refine Wc.ret ?_
        refine blockX.ret ?_
        refine blockX.ret ?_
        refine retX.mk (.int .i64 0) ⟨rfl, rfl⟩ (by kernel_rfl) ?_
        have e : one s = 0 := by rw [ho, if_neg (by omega)]
        rw [e]; rfl
      · refine Wl.known [(0, (.str (s))), (2, (.int .i64 0)), (3, (.int .i64 2)), (4, (.int .i64 (64 * (byteAt s 0 % 16) + byteAt s 1 % 64))), (5, (.int .i64 2)), (22, (.bool (decide ((↑(List.length s) : Int) ≤ 2)))), (30, (.bool true)), (38, (.bool true)), (45, (.bool false)), (50, (.bool (decide (191 < byteAt s 1))))] (by have e := decide_eq_false (show ¬ (byteAt s 2 < 128) from gb5); simp only [e] <;> rfl) ?_
        refine Wl.batch (b := (base 13 80)) 5 10 [0, 2, 3, 4, 5, 22, 30, 38, 50] [(0, (.str (s))), (2, (.int .i64 0)), (3, (.int .i64 2)), (4, (.int .i64 (64 * (byteAt s 0 % 16) + byteAt s 1 % 64))), (5, (.int .i64 2)), (22, (.bool (decide ((↑(List.length s) : Int) ≤ 2)))), (30, (.bool true)), (38, (.bool true)), (50, (.bool (decide (191 < byteAt s 2))))] Heap.empty [(((0 : Int) ≤ (2 : Int)) ∧ ((2 : Int) < (↑(List.length s) : Int)))] (by kernel_rfl) rfl (.cons (by omega) .nil) ?_
        refine Wl.done 10 rfl ?_
        refine Wc.condP (p := 191 < byteAt s 2) (by kernel_rfl) (by kernel_rfl) (fun c2 => ?_) (fun c2 => ?_)
        · refine Wc.seq ?_
          refine Wc.whole (b := (base 13 80)) [0, 2, 3, 4, 5, 22, 30, 38, 50] [(0, (.str (s))), (2, (.int .i64 0)), (3, (.int .i64 2)), (4, (.int .i64 (64 * (byteAt s 0 % 16) + byteAt s 1 % 64))), (5, (.int .i64 2)), (22, (.bool (decide ((↑(List.length s) : Int) ≤ 2)))), (30, (.bool true)), (38, (.bool true)), (50, (.bool (decide (191 < byteAt s 2))))] Heap.empty [] (by kernel_rfl) .nil ?_
          refine Wc.ret ?_
          refine blockX.ret ?_
          refine blockX.ret ?_
          refine retX.mk (.int .i64 0) ⟨rfl, rfl⟩ (by kernel_rfl) ?_
          have e : one s = 0 := by rw [ho, if_neg (by omega)]
          rw [e]; rfl
        · refine Wc.skip ?_
          refine Wc.whole (b := (base 13 80)) [0, 2, 3, 4, 5, 22, 30, 38, 50] [(0, (.str (s))), (2, (.int .i64 0)), (3, (.int .i64 2)), (4, (.int .i64 (64 * (64 * (byteAt s 0 % 16) + byteAt s 1 % 64) + byteAt s 2 % 64))), (5, (.int .i64 2)), (22, (.bool (decide ((↑(List.length s) : Int) ≤ 2)))), (30, (.bool true)), (38, (.bool true)), (50, (.bool (decide (191 < byteAt s 2))))] Heap.empty [(((-9223372036854775808 : Int) ≤ (64 : Int) * ((64 : Int) * (byteAt s (0 : Int) % (16 : Int)) + byteAt s (1 : Int) % (64 : Int))) ∧ ((64 : Int) * ((64 : Int) * (byteAt s (0 : Int) % (16 : Int)) + byteAt s (1 : Int) % (64 : Int)) ≤ (9223372036854775807 : Int))), (((0 : Int) ≤ (2 : Int)) ∧ ((2 : Int) < (↑(List.length s) : Int))), (((0 : Int) ≤ byteAt s (2 : Int)) ∧ ((0 : Int) < (64 : Int))), (((-9223372036854775808 : Int) ≤ byteAt s (2 : Int) % (64 : Int)) ∧ (byteAt s (2 : Int) % (64 : Int) ≤ (9223372036854775807 : Int))), (((-9223372036854775808 : Int) ≤ (64 : Int) * ((64 : Int) * (byteAt s (0 : Int) % (16 : Int)) + byteAt s (1 : Int) % (64 : Int)) + byteAt s (2 : Int) % (64 : Int)) ∧ ((64 : Int) * ((64 : Int) * (byteAt s (0 : Int) % (16 : Int)) + byteAt s (1 : Int) % (64 : Int)) + byteAt s (2 : Int) % (64 : Int) ≤ (9223372036854775807 : Int)))] (by kernel_rfl) (.cons (by omega) (.cons (by omega) (.cons (by omega) (.cons (by omega) (.cons (by omega) .nil))))) ?_
          refine Wc.whole (b := (base 13 80)) [0, 2, 3, 4, 5, 22, 30, 38, 50] [(0, (.str (s))), (2, (.int .i64 0)), (3, (.int .i64 2)), (4, (.int .i64 (64 * (64 * (byteAt s 0 % 16) + byteAt s 1 % 64) + byteAt s 2 % 64))), (5, (.int .i64 3)), (22, (.bool (decide ((↑(List.length s) : Int) ≤ 2)))), (30, (.bool true)), (38, (.bool true)), (50, (.bool (decide (191 < byteAt s 2))))] Heap.empty [(((-9223372036854775808 : Int) ≤ (3 : Int)) ∧ ((3 : Int) ≤ (9223372036854775807 : Int)))] (by kernel_rfl) (.cons (by omega) .nil) ?_
          refine Wc.unroll ?_
          refine Wc.seq ?_
          refine Wc.seq ?_
          refine Wc.whole (b := (base 13 80)) [0, 2, 3, 4, 5, 22, 30, 38, 50] [(0, (.str (s))), (2, (.int .i64 0)), (3, (.int .i64 2)), (4, (.int .i64 (64 * (64 * (byteAt s 0 % 16) + byteAt s 1 % 64) + byteAt s 2 % 64))), (5, (.int .i64 3)), (22, (.bool (decide ((↑(List.length s) : Int) ≤ 2)))), (30, (.bool true)), (38, (.bool false)), (50, (.bool (decide (191 < byteAt s 2))))] Heap.empty [] (by kernel_rfl) .nil ?_
          refine Wc.condF (by kernel_rfl) (by kernel_rfl) ?_
          refine Wc.exit ?_
          refine blockX.here ?_
          refine Wc.seq ?_
          refine Wc.whole (b := (base 13 80)) [0, 2, 3, 4, 5, 6, 22, 30, 38, 50] [(0, (.str (s))), (2, (.int .i64 0)), (3, (.int .i64 2)), (4, (.int .i64 (64 * (64 * (byteAt s 0 % 16) + byteAt s 1 % 64) + byteAt s 2 % 64))), (5, (.int .i64 3)), (6, (.int .i64 2048)), (22, (.bool (decide ((↑(List.length s) : Int) ≤ 2)))), (30, (.bool true)), (38, (.bool false)), (50, (.bool (decide (191 < byteAt s 2))))] Heap.empty [(((0 : Int) ≤ (2 : Int)) ∧ ((2 : Int) < (4 : Int)))] (by kernel_rfl) (.cons (by omega) .nil) ?_
          refine Wc.seq ?_
          refine Wc.seq ?_
          refine Wc.enter ?_
          refine Wl.batch (b := (base 13 80)) 0 4 [0, 2, 3, 4, 5, 6, 22, 30, 38, 50, 66] [(0, (.str (s))), (2, (.int .i64 0)), (3, (.int .i64 2)), (4, (.int .i64 (64 * (64 * (byteAt s 0 % 16) + byteAt s 1 % 64) + byteAt s 2 % 64))), (5, (.int .i64 3)), (6, (.int .i64 2048)), (22, (.bool (decide ((↑(List.length s) : Int) ≤ 2)))), (30, (.bool true)), (38, (.bool false)), (50, (.bool (decide (191 < byteAt s 2)))), (66, (.bool (decide (64 * (64 * (byteAt s 0 % 16) + byteAt s 1 % 64) + byteAt s 2 % 64 < 2048))))] Heap.empty [] (by kernel_rfl) rfl .nil ?_
          by_cases gc5 : 64 * (64 * (byteAt s 0 % 16) + byteAt s 1 % 64) + byteAt s 2 % 64 < 2048
          · refine Wl.known [(0, (.str (s))), (2, (.int .i64 0)), (3, (.int .i64 2)), (4, (.int .i64 (64 * (64 * (byteAt s 0 % 16) + byteAt s 1 % 64) + byteAt s 2 % 64))), (5, (.int .i64 3)), (6, (.int .i64 2048)), (22, (.bool (decide ((↑(List.length s) : Int) ≤ 2)))), (30, (.bool true)), (38, (.bool false)), (50, (.bool (decide (191 < byteAt s 2)))), (66, (.bool true))] (by have e := decide_eq_true (show 64 * (64 * (byteAt s 0 % 16) + byteAt s 1 % 64) + byteAt s 2 % 64 < 2048 from gc5); simp only [e] <;> rfl) ?_
            refine Wl.batch (b := (base 13 80)) 4 15 [0, 2, 3, 4, 5, 6, 22, 30, 38, 50, 77] [(0, (.str (s))), (2, (.int .i64 0)), (3, (.int .i64 2)), (4, (.int .i64 (64 * (64 * (byteAt s 0 % 16) + byteAt s 1 % 64) + byteAt s 2 % 64))), (5, (.int .i64 3)), (6, (.int .i64 2048)), (22, (.bool (decide ((↑(List.length s) : Int) ≤ 2)))), (30, (.bool true)), (38, (.bool false)), (50, (.bool (decide (191 < byteAt s 2)))), (77, (.bool true))] Heap.empty [] (by kernel_rfl) rfl .nil ?_
            refine Wl.done 15 rfl ?_
            refine Wc.condT (by kernel_rfl) (by kernel_rfl) ?_
            refine Wc.seq ?_
            refine Wc.whole (b := (base 13 80)) [0, 2, 3, 4, 5, 6, 22, 30, 38, 50, 77] [(0, (.str (s))), (2, (.int .i64 0)), (3, (.int .i64 2)), (4, (.int .i64 (64 * (64 * (byteAt s 0 % 16) + byteAt s 1 % 64) + byteAt s 2 % 64))), (5, (.int .i64 3)), (6, (.int .i64 2048)), (22, (.bool (decide ((↑(List.length s) : Int) ≤ 2)))), (30, (.bool true)), (38, (.bool false)), (50, (.bool (decide (191 < byteAt s 2)))), (77, (.bool true))] Heap.empty [] (by kernel_rfl) .nil ?_
            refine Wc.ret ?_
            refine retX.mk (.int .i64 0) ⟨rfl, rfl⟩ (by kernel_rfl) ?_
            have e : one s = 0 := by rw [ho, if_neg (by omega)]
            rw [e]; rfl
          · refine Wl.known [(0, (.str (s))), (2, (.int .i64 0)), (3, (.int .i64 2)), (4, (.int .i64 (64 * (64 * (byteAt s 0 % 16) + byteAt s 1 % 64) + byteAt s 2 % 64))), (5, (.int .i64 3)), (6, (.int .i64 2048)), (22, (.bool (decide ((↑(List.length s) : Int) ≤ 2)))), (30, (.bool true)), (38, (.bool false)), (50, (.bool (decide (191 < byteAt s 2)))), (66, (.bool false))] (by have e := decide_eq_false (show ¬ (64 * (64 * (byteAt s 0 % 16) + byteAt s 1 % 64) + byteAt s 2 % 64 < 2048) from gc5); simp only [e] <;> rfl) ?_
            refine Wl.batch (b := (base 13 80)) 4 7 [0, 2, 3, 4, 5, 6, 22, 30, 38, 50, 66, 69] [(0, (.str (s))), (2, (.int .i64 0)), (3, (.int .i64 2)), (4, (.int .i64 (64 * (64 * (byteAt s 0 % 16) + byteAt s 1 % 64) + byteAt s 2 % 64))), (5, (.int .i64 3)), (6, (.int .i64 2048)), (22, (.bool (decide ((↑(List.length s) : Int) ≤ 2)))), (30, (.bool true)), (38, (.bool false)), (50, (.bool (decide (191 < byteAt s 2)))), (66, (.bool false)), (69, (.bool (decide (55296 ≤ 64 * (64 * (byteAt s 0 % 16) + byteAt s 1 % 64) + byteAt s 2 % 64))))] Heap.empty [] (by kernel_rfl) rfl .nil ?_
            by_cases gd4 : 55296 ≤ 64 * (64 * (byteAt s 0 % 16) + byteAt s 1 % 64) + byteAt s 2 % 64
            · refine Wl.known [(0, (.str (s))), (2, (.int .i64 0)), (3, (.int .i64 2)), (4, (.int .i64 (64 * (64 * (byteAt s 0 % 16) + byteAt s 1 % 64) + byteAt s 2 % 64))), (5, (.int .i64 3)), (6, (.int .i64 2048)), (22, (.bool (decide ((↑(List.length s) : Int) ≤ 2)))), (30, (.bool true)), (38, (.bool false)), (50, (.bool (decide (191 < byteAt s 2)))), (66, (.bool false)), (69, (.bool true))] (by have e := decide_eq_true (show 55296 ≤ 64 * (64 * (byteAt s 0 % 16) + byteAt s 1 % 64) + byteAt s 2 % 64 from gd4); simp only [e] <;> rfl) ?_
              refine Wl.batch (b := (base 13 80)) 7 12 [0, 2, 3, 4, 5, 6, 22, 30, 38, 50, 74] [(0, (.str (s))), (2, (.int .i64 0)), (3, (.int .i64 2)), (4, (.int .i64 (64 * (64 * (byteAt s 0 % 16) + byteAt s 1 % 64) + byteAt s 2 % 64))), (5, (.int .i64 3)), (6, (.int .i64 2048)), (22, (.bool (decide ((↑(List.length s) : Int) ≤ 2)))), (30, (.bool true)), (38, (.bool false)), (50, (.bool (decide (191 < byteAt s 2)))), (74, (.bool (decide (64 * (64 * (byteAt s 0 % 16) + byteAt s 1 % 64) + byteAt s 2 % 64 ≤ 57343))))] Heap.empty [] (by kernel_rfl) rfl .nil ?_
              by_cases ge5 : 64 * (64 * (byteAt s 0 % 16) + byteAt s 1 % 64) + byteAt s 2 % 64 ≤ 57343
              · refine Wl.known [(0, (.str (s))), (2, (.int .i64 0)), (3, (.int .i64 2)), (4, (.int .i64 (64 * (64 * (byteAt s 0 % 16) + byteAt s 1 % 64) + byteAt s 2 % 64))), (5, (.int .i64 3)), (6, (.int .i64 2048)), (22, (.bool (decide ((↑(List.length s) : Int) ≤ 2)))), (30, (.bool true)), (38, (.bool false)), (50, (.bool (decide (191 < byteAt s 2)))), (74, (.bool true))] (by have e := decide_eq_true (show 64 * (64 * (byteAt s 0 % 16) + byteAt s 1 % 64) + byteAt s 2 % 64 ≤ 57343 from ge5); simp only [e] <;> rfl) ?_
                refine Wl.batch (b := (base 13 80)) 12 15 [0, 2, 3, 4, 5, 6, 22, 30, 38, 50, 77] [(0, (.str (s))), (2, (.int .i64 0)), (3, (.int .i64 2)), (4, (.int .i64 (64 * (64 * (byteAt s 0 % 16) + byteAt s 1 % 64) + byteAt s 2 % 64))), (5, (.int .i64 3)), (6, (.int .i64 2048)), (22, (.bool (decide ((↑(List.length s) : Int) ≤ 2)))), (30, (.bool true)), (38, (.bool false)), (50, (.bool (decide (191 < byteAt s 2)))), (77, (.bool true))] Heap.empty [] (by kernel_rfl) rfl .nil ?_
                refine Wl.done 15 rfl ?_
                refine Wc.condT (by kernel_rfl) (by kernel_rfl) ?_
                refine Wc.seq ?_
                refine Wc.whole (b := (base 13 80)) [0, 2, 3, 4, 5, 6, 22, 30, 38, 50, 77] [(0, (.str (s))), (2, (.int .i64 0)), (3, (.int .i64 2)), (4, (.int .i64 (64 * (64 * (byteAt s 0 % 16) + byteAt s 1 % 64) + byteAt s 2 % 64))), (5, (.int .i64 3)), (6, (.int .i64 2048)), (22, (.bool (decide ((↑(List.length s) : Int) ≤ 2)))), (30, (.bool true)), (38, (.bool false)), (50, (.bool (decide (191 < byteAt s 2)))), (77, (.bool true))] Heap.empty [] (by kernel_rfl) .nil ?_
                refine Wc.ret ?_
                refine retX.mk (.int .i64 0) ⟨rfl, rfl⟩ (by kernel_rfl) ?_
                have e : one s = 0 := by rw [ho, if_neg (by omega)]
                rw [e]; rfl
              · refine Wl.known [(0, (.str (s))), (2, (.int .i64 0)), (3, (.int .i64 2)), (4, (.int .i64 (64 * (64 * (byteAt s 0 % 16) + byteAt s 1 % 64) + byteAt s 2 % 64))), (5, (.int .i64 3)), (6, (.int .i64 2048)), (22, (.bool (decide ((↑(List.length s) : Int) ≤ 2)))), (30, (.bool true)), (38, (.bool false)), (50, (.bool (decide (191 < byteAt s 2)))), (74, (.bool false))] (by have e := decide_eq_false (show ¬ (64 * (64 * (byteAt s 0 % 16) + byteAt s 1 % 64) + byteAt s 2 % 64 ≤ 57343) from ge5); simp only [e] <;> rfl) ?_
                refine Wl.batch (b := (base 13 80)) 12 15 [0, 2, 3, 4, 5, 6, 22, 30, 38, 50, 77] [(0, (.str (s))), (2, (.int .i64 0)), (3, (.int .i64 2)), (4, (.int .i64 (64 * (64 * (byteAt s 0 % 16) + byteAt s 1 % 64) + byteAt s 2 % 64))), (5, (.int .i64 3)), (6, (.int .i64 2048)), (22, (.bool (decide ((↑(List.length s) : Int) ≤ 2)))), (30, (.bool true)), (38, (.bool false)), (50, (.bool (decide (191 < byteAt s 2)))), (77, (.bool (decide (1114111 < 64 * (64 * (byteAt s 0 % 16) + byteAt s 1 % 64) + byteAt s 2 % 64))))] Heap.empty [] (by kernel_rfl) rfl .nil ?_
                refine Wl.done 15 rfl ?_
                refine Wc.condP (p := 1114111 < 64 * (64 * (byteAt s 0 % 16) + byteAt s 1 % 64) + byteAt s 2 % 64) (by kernel_rfl) (by kernel_rfl) (fun c2 => absurd c2 (show ¬ (1114111 < 64 * (64 * (byteAt s 0 % 16) + byteAt s 1 % 64) + byteAt s 2 % 64) from (by omega))) (fun c2 => ?_)
                refine Wc.skip ?_
                refine Wc.seq ?_
                refine Wc.whole (b := (base 13 80)) [0, 2, 3, 4, 5, 6, 22, 30, 38, 50, 77] [(0, (.str (s))), (2, (.int .i64 3)), (3, (.int .i64 2)), (4, (.int .i64 (64 * (64 * (byteAt s 0 % 16) + byteAt s 1 % 64) + byteAt s 2 % 64))), (5, (.int .i64 3)), (6, (.int .i64 2048)), (22, (.bool (decide ((↑(List.length s) : Int) ≤ 2)))), (30, (.bool true)), (38, (.bool false)), (50, (.bool (decide (191 < byteAt s 2)))), (77, (.bool (decide (1114111 < 64 * (64 * (byteAt s 0 % 16) + byteAt s 1 % 64) + byteAt s 2 % 64))))] Heap.empty [(((-9223372036854775808 : Int) ≤ (3 : Int)) ∧ ((3 : Int) ≤ (9223372036854775807 : Int)))] (by kernel_rfl) (.cons (by omega) .nil) ?_
                refine Wc.ret ?_
                refine retX.mk (.int .i64 3) ⟨rfl, rfl⟩ (by kernel_rfl) ?_
                have e : one s = 3 := by rw [ho, if_pos (by omega)]
                rw [e]; rfl
            · refine Wl.known [(0, (.str (s))), (2, (.int .i64 0)), (3, (.int .i64 2)), (4, (.int .i64 (64 * (64 * (byteAt s 0 % 16) + byteAt s 1 % 64) + byteAt s 2 % 64))), (5, (.int .i64 3)), (6, (.int .i64 2048)), (22, (.bool (decide ((↑(List.length s) : Int) ≤ 2)))), (30, (.bool true)), (38, (.bool false)), (50, (.bool (decide (191 < byteAt s 2)))), (66, (.bool false)), (69, (.bool false))] (by have e := decide_eq_false (show ¬ (55296 ≤ 64 * (64 * (byteAt s 0 % 16) + byteAt s 1 % 64) + byteAt s 2 % 64) from gd4); simp only [e] <;> rfl) ?_
              refine Wl.batch (b := (base 13 80)) 7 15 [0, 2, 3, 4, 5, 6, 22, 30, 38, 50, 77] [(0, (.str (s))), (2, (.int .i64 0)), (3, (.int .i64 2)), (4, (.int .i64 (64 * (64 * (byteAt s 0 % 16) + byteAt s 1 % 64) + byteAt s 2 % 64))), (5, (.int .i64 3)), (6, (.int .i64 2048)), (22, (.bool (decide ((↑(List.length s) : Int) ≤ 2)))), (30, (.bool true)), (38, (.bool false)), (50, (.bool (decide (191 < byteAt s 2)))), (77, (.bool (decide (1114111 < 64 * (64 * (byteAt s 0 % 16) + byteAt s 1 % 64) + byteAt s 2 % 64))))] Heap.empty [] (by kernel_rfl) rfl .nil ?_
              refine Wl.done 15 rfl ?_
              refine Wc.condP (p := 1114111 < 64 * (64 * (byteAt s 0 % 16) + byteAt s 1 % 64) + byteAt s 2 % 64) (by kernel_rfl) (by kernel_rfl) (fun c2 => absurd c2 (show ¬ (1114111 < 64 * (64 * (byteAt s 0 % 16) + byteAt s 1 % 64) + byteAt s 2 % 64) from (by omega))) (fun c2 => ?_)
              refine Wc.skip ?_
              refine Wc.seq ?_
              refine Wc.whole (b := (base 13 80)) [0, 2, 3, 4, 5, 6, 22, 30, 38, 50, 77] [(0, (.str (s))), (2, (.int .i64 3)), (3, (.int .i64 2)), (4, (.int .i64 (64 * (64 * (byteAt s 0 % 16) + byteAt s 1 % 64) + byteAt s 2 % 64))), (5, (.int .i64 3)), (6, (.int .i64 2048)), (22, (.bool (decide ((↑(List.length s) : Int) ≤ 2)))), (30, (.bool true)), (38, (.bool false)), (50, (.bool (decide (191 < byteAt s 2)))), (77, (.bool (decide (1114111 < 64 * (64 * (byteAt s 0 % 16) + byteAt s 1 % 64) + byteAt s 2 % 64))))] Heap.empty [(((-9223372036854775808 : Int) ≤ (3 : Int)) ∧ ((3 : Int) ≤ (9223372036854775807 : Int)))] (by kernel_rfl) (.cons (by omega) .nil) ?_
              refine Wc.ret ?_
              refine retX.mk (.int .i64 3) ⟨rfl, rfl⟩ (by kernel_rfl) ?_
              have e : one s = 3 := by rw [ho, if_pos (by omega)]
              rw [e]; rfl
theorem c33_3 (s : List UInt8) (hs : s ≠ []) (hl : 3 < s.length) (h : 240 ≤ byteAt s 0 ∧ byteAt s 0 ≤ 244) : Cp Tryd.prog EU 13 [.str s] (.int .i64 ((one s : Nat) : Int)) := by
  have h0 : 0 < s.length := List.length_pos_iff.2 hs
  have hs' : ¬ s = [] := hs
  have hn : moreI (byteAt s 0) = 3 := by
    unfold moreI
    repeat' split
    all_goals omega
  have hc := c39 (byteAt s 0)
  rw [hn] at hc
  have e0 : byteAt s 0 = (atN s 0 : Int) := rfl
  have e1 : byteAt s 1 = (atN s 1 : Int) := rfl
  have e2 : byteAt s 2 = (atN s 2 : Int) := rfl
  have e3 : byteAt s 3 = (atN s 3 : Int) := rfl
  have q0 := atN_lt s 0
  have q1 := atN_lt s 1
  have q2 := atN_lt s 2
  have q3 := atN_lt s 3
  have ho := one_eq hs
  rw [oneG_3 (by omega)] at ho
  simp only [decide_eq_true_eq] at ho
  refine Cp.body (fn := Tryd.f13) Tryd.func13 rfl (by kernel_rfl) ?_
  refine Wc.seq ?_
  refine Wc.whole (b := (base 13 80)) [0, 2] [(0, (.str (s))), (2, (.int .i64 0))] Heap.empty [] (by kernel_rfl) .nil ?_
  refine Wc.seq ?_
  refine Wc.seq ?_
  refine Wc.enter ?_
  refine Wl.batch (b := (base 13 80)) 0 3 [0, 2, 9] [(0, (.str (s))), (2, (.int .i64 0)), (9, (.bool (decide (s = []))))] Heap.empty [] (by kernel_rfl) rfl .nil ?_
  refine Wl.known [(0, (.str (s))), (2, (.int .i64 0)), (9, (.bool false))] (by have e := decide_eq_false (show ¬ (s = []) from hs'); simp only [e] <;> rfl) ?_
  refine Wl.batch (b := (base 13 80)) 3 5 [0, 2, 9, 11] [(0, (.str (s))), (2, (.int .i64 0)), (9, (.bool false)), (11, (.int .u8 (byteAt s 0)))] Heap.empty [(((0 : Int) ≤ (0 : Int)) ∧ ((0 : Int) < (↑(List.length s) : Int)))] (by kernel_rfl) rfl (.cons (by omega) .nil) ?_
  refine Wl.callP (b := (base 13 80)) (h1 := Heap.empty) (h2 := Heap.empty) (v := (.int .i64 3)) (d := (some 12)) 5 [0, 2, 9, 12] [(0, (.str (s))), (2, (.int .i64 0)), (9, (.bool false)), (12, (.int .i64 3))] (@hc) (by kernel_rfl) (by kernel_rfl) (by kernel_rfl) ?_
  refine Wl.batch (b := (base 13 80)) 6 11 [0, 2, 15, 17] [(0, (.str (s))), (2, (.int .i64 0)), (15, (.bool false)), (17, (.int .u8 (byteAt s 0)))] Heap.empty [(((0 : Int) ≤ (0 : Int)) ∧ ((0 : Int) < (↑(List.length s) : Int)))] (by kernel_rfl) rfl (.cons (by omega) .nil) ?_
  refine Wl.callP (b := (base 13 80)) (h1 := Heap.empty) (h2 := Heap.empty) (v := (.int .i64 3)) (d := (some 18)) 11 [0, 2, 15, 18] [(0, (.str (s))), (2, (.int .i64 0)), (15, (.bool false)), (18, (.int .i64 3))] (@hc) (by kernel_rfl) (by kernel_rfl) (by kernel_rfl) ?_
  refine Wl.batch (b := (base 13 80)) 12 16 [0, 2, 22] [(0, (.str (s))), (2, (.int .i64 0)), (22, (.bool (decide ((↑(List.length s) : Int) ≤ 3))))] Heap.empty [] (by kernel_rfl) rfl .nil ?_
  refine Wl.done 16 rfl ?_
  refine Wc.condP (p := (↑(List.length s) : Int) ≤ 3) (by kernel_rfl) (by kernel_rfl) (fun c2 => absurd c2 (show ¬ ((↑(List.length s) : Int) ≤ 3) from (by omega))) (fun c2 => ?_)
  refine Wc.skip ?_
  refine Wc.seq ?_
  refine Wc.enter ?_
  refine Wl.batch (b := (base 13 80)) 0 2 [0, 2, 22, 24] [(0, (.str (s))), (2, (.int .i64 0)), (22, (.bool (decide ((↑(List.length s) : Int) ≤ 3)))), (24, (.int .u8 (byteAt s 0)))] Heap.empty [(((0 : Int) ≤ (0 : Int)) ∧ ((0 : Int) < (↑(List.length s) : Int)))] (by kernel_rfl) rfl (.cons (by omega) .nil) ?_
  refine Wl.callP (b := (base 13 80)) (h1 := Heap.empty) (h2 := Heap.empty) (v := (.int .i64 3)) (d := (some 25)) 2 [0, 2, 22, 25] [(0, (.str (s))), (2, (.int .i64 0)), (22, (.bool (decide ((↑(List.length s) : Int) ≤ 3)))), (25, (.int .i64 3))] (@hc) (by kernel_rfl) (by kernel_rfl) (by kernel_rfl) ?_
  refine Wl.batch (b := (base 13 80)) 3 4 [0, 2, 3, 22] [(0, (.str (s))), (2, (.int .i64 0)), (3, (.int .i64 3)), (22, (.bool (decide ((↑(List.length s) : Int) ≤ 3))))] Heap.empty [] (by kernel_rfl) rfl .nil ?_
  refine Wl.done 4 rfl ?_
  refine Wc.seq ?_
  refine Wc.whole (b := (base 13 80)) [0, 2, 3, 4, 22] [(0, (.str (s))), (2, (.int .i64 0)), (3, (.int .i64 3)), (4, (.int .i64 (byteAt s 0))), (22, (.bool (decide ((↑(List.length s) : Int) ≤ 3))))] Heap.empty [(((0 : Int) ≤ (0 : Int)) ∧ ((0 : Int) < (↑(List.length s) : Int))), (((-9223372036854775808 : Int) ≤ byteAt s (0 : Int)) ∧ (byteAt s (0 : Int) ≤ (9223372036854775807 : Int)))] (by kernel_rfl) (.cons (by omega) (.cons (by omega) .nil)) ?_
  refine Wc.seq ?_
  refine Wc.seq ?_
  refine Wc.whole (b := (base 13 80)) [0, 2, 3, 4, 22, 30] [(0, (.str (s))), (2, (.int .i64 0)), (3, (.int .i64 3)), (4, (.int .i64 (byteAt s 0))), (22, (.bool (decide ((↑(List.length s) : Int) ≤ 3)))), (30, (.bool true))] Heap.empty [] (by kernel_rfl) .nil ?_
  refine Wc.condT (by kernel_rfl) (by kernel_rfl) ?_
  refine Wc.whole (b := (base 13 80)) [0, 2, 3, 4, 22, 30] [(0, (.str (s))), (2, (.int .i64 0)), (3, (.int .i64 3)), (4, (.int .i64 (byteAt s 0 % 8))), (22, (.bool (decide ((↑(List.length s) : Int) ≤ 3)))), (30, (.bool true))] Heap.empty [(((0 : Int) ≤ (3 : Int)) ∧ ((3 : Int) ≤ (18446744073709551615 : Int))), (((0 : Int) ≤ byteAt s (0 : Int)) ∧ ((0 : Int) < (8 : Int)))] (by kernel_rfl) (.cons (by omega) (.cons (by omega) .nil)) ?_
  refine Wc.seq ?_
  refine Wc.seq ?_
  refine Wc.whole (b := (base 13 80)) [0, 2, 3, 4, 5, 22, 30] [(0, (.str (s))), (2, (.int .i64 0)), (3, (.int .i64 3)), (4, (.int .i64 (byteAt s 0 % 8))), (5, (.int .i64 1)), (22, (.bool (decide ((↑(List.length s) : Int) ≤ 3)))), (30, (.bool true))] Heap.empty [] (by kernel_rfl) .nil ?_
  refine Wc.block ?_
  refine Wc.unroll ?_
  refine Wc.seq ?_
  refine Wc.seq ?_
  refine Wc.whole (b := (base 13 80)) [0, 2, 3, 4, 5, 22, 30, 38] [(0, (.str (s))), (2, (.int .i64 0)), (3, (.int .i64 3)), (4, (.int .i64 (byteAt s 0 % 8))), (5, (.int .i64 1)), (22, (.bool (decide ((↑(List.length s) : Int) ≤ 3)))), (30, (.bool true)), (38, (.bool true))] Heap.empty [] (by kernel_rfl) .nil ?_
  refine Wc.condT (by kernel_rfl) (by kernel_rfl) ?_
  refine Wc.skip ?_
  refine Wc.seq ?_
  refine Wc.block ?_
  refine Wc.seq ?_
  refine Wc.seq ?_
  refine Wc.enter ?_
  refine Wl.batch (b := (base 13 80)) 0 5 [0, 2, 3, 4, 5, 22, 30, 38, 45] [(0, (.str (s))), (2, (.int .i64 0)), (3, (.int .i64 3)), (4, (.int .i64 (byteAt s 0 % 8))), (5, (.int .i64 1)), (22, (.bool (decide ((↑(List.length s) : Int) ≤ 3)))), (30, (.bool true)), (38, (.bool true)), (45, (.bool (decide (byteAt s 1 < 128))))] Heap.empty [(((0 : Int) ≤ (1 : Int)) ∧ ((1 : Int) < (↑(List.length s) : Int)))] (by kernel_rfl) rfl (.cons (by omega) .nil) ?_
  by_cases ga1 : byteAt s 1 < 128
  · refine Wl.known [(0, (.str (s))), (2, (.int .i64 0)), (3, (.int .i64 3)), (4, (.int .i64 (byteAt s 0 % 8))), (5, (.int .i64 1)), (22, (.bool (decide ((↑(List.length s) : Int) ≤ 3)))), (30, (.bool true)), (38, (.bool true)), (45, (.bool true))] (by have e := decide_eq_true (show byteAt s 1 < 128 from ga1); simp only [e] <;> rfl) ?_
    refine Wl.batch (b := (base 13 80)) 5 10 [0, 2, 3, 4, 5, 22, 30, 38, 50] [(0, (.str (s))), (2, (.int .i64 0)), (3, (.int .i64 3)), (4, (.int .i64 (byteAt s 0 % 8))), (5, (.int .i64 1)), (22, (.bool (decide ((↑(List.length s) : Int) ≤ 3)))), (30, (.bool true)), (38, (.bool true)), (50, (.bool true))] Heap.empty [] (by kernel_rfl) rfl .nil ?_
    refine Wl.done 10 rfl ?_
    refine Wc.condT (by kernel_rfl) (by kernel_rfl) ?_
    refine Wc.seq ?_
    refine Wc.whole (b := (base 13 80)) [0, 2, 3, 4, 5, 22, 30, 38, 50] [(0, (.str (s))), (2, (.int .i64 0)), (3, (.int .i64 3)), (4, (.int .i64 (byteAt s 0 % 8))), (5, (.int .i64 1)), (22, (.bool (decide ((↑(List.length s) : Int) ≤ 3)))), (30, (.bool true)), (38, (.bool true)), (50, (.bool true))] Heap.empty [] (by kernel_rfl) .nil ?_
    refine Wc.ret ?_
    refine blockX.ret ?_
    refine blockX.ret ?_
    refine retX.mk (.int .i64 0) ⟨rfl, rfl⟩ (by kernel_rfl) ?_
    have e : one s = 0 := by rw [ho, if_neg (by omega)]
    rw [e]; rfl
  · refine Wl.known [(0, (.str (s))), (2, (.int .i64 0)), (3, (.int .i64 3)), (4, (.int .i64 (byteAt s 0 % 8))), (5, (.int .i64 1)), (22, (.bool (decide ((↑(List.length s) : Int) ≤ 3)))), (30, (.bool true)), (38, (.bool true)), (45, (.bool false))] (by have e := decide_eq_false (show ¬ (byteAt s 1 < 128) from ga1); simp only [e] <;> rfl) ?_
    refine Wl.batch (b := (base 13 80)) 5 10 [0, 2, 3, 4, 5, 22, 30, 38, 50] [(0, (.str (s))), (2, (.int .i64 0)), (3, (.int .i64 3)), (4, (.int .i64 (byteAt s 0 % 8))), (5, (.int .i64 1)), (22, (.bool (decide ((↑(List.length s) : Int) ≤ 3)))), (30, (.bool true)), (38, (.bool true)), (50, (.bool (decide (191 < byteAt s 1))))] Heap.empty [(((0 : Int) ≤ (1 : Int)) ∧ ((1 : Int) < (↑(List.length s) : Int)))] (by kernel_rfl) rfl (.cons (by omega) .nil) ?_
    refine Wl.done 10 rfl ?_
    refine Wc.condP (p := 191 < byteAt s 1) (by kernel_rfl) (by kernel_rfl) (fun c2 => ?_) (fun c2 => ?_)
    · refine Wc.seq ?_
      refine Wc.whole (b := (base 13 80)) [0, 2, 3, 4, 5, 22, 30, 38, 50] [(0, (.str (s))), (2, (.int .i64 0)), (3, (.int .i64 3)), (4, (.int .i64 (byteAt s 0 % 8))), (5, (.int .i64 1)), (22, (.bool (decide ((↑(List.length s) : Int) ≤ 3)))), (30, (.bool true)), (38, (.bool true)), (50, (.bool (decide (191 < byteAt s 1))))] Heap.empty [] (by kernel_rfl) .nil ?_
      refine Wc.ret ?_
      refine blockX.ret ?_
      refine blockX.ret ?_
      refine retX.mk (.int .i64 0) ⟨rfl, rfl⟩ (by kernel_rfl) ?_
      have e : one s = 0 := by rw [ho, if_neg (by omega)]
      rw [e]; rfl
    · refine Wc.skip ?_
      refine Wc.whole (b := (base 13 80)) [0, 2, 3, 4, 5, 22, 30, 38, 50] [(0, (.str (s))), (2, (.int .i64 0)), (3, (.int .i64 3)), (4, (.int .i64 (64 * (byteAt s 0 % 8) + byteAt s 1 % 64))), (5, (.int .i64 1)), (22, (.bool (decide ((↑(List.length s) : Int) ≤ 3)))), (30, (.bool true)), (38, (.bool true)), (50, (.bool (decide (191 < byteAt s 1))))] Heap.empty [(((-9223372036854775808 : Int) ≤ (64 : Int) * (byteAt s (0 : Int) % (8 : Int))) ∧ ((64 : Int) * (byteAt s (0 : Int) % (8 : Int)) ≤ (9223372036854775807 : Int))), (((0 : Int) ≤ (1 : Int)) ∧ ((1 : Int) < (↑(List.length s) : Int))), (((0 : Int) ≤ byteAt s (1 : Int)) ∧ ((0 : Int) < (64 : Int))), (((-9223372036854775808 : Int) ≤ byteAt s (1 : Int) % (64 : Int)) ∧ (byteAt s (1 : Int) % (64 : Int) ≤ (9223372036854775807 : Int))), (((-9223372036854775808 : Int) ≤ (64 : Int) * (byteAt s (0 : Int) % (8 : Int)) + byteAt s (1 : Int) % (64 : Int)) ∧ ((64 : Int) * (byteAt s (0 : Int) % (8 : Int)) + byteAt s (1 : Int) % (64 : Int) ≤ (9223372036854775807 : Int)))] (by kernel_rfl) (.cons (by omega) (.cons (by omega) (.cons (by omega) (.cons (by omega) (.cons (by omega) .nil))))) ?_
      refine Wc.whole (b := (base 13 80)) [0, 2, 3, 4, 5, 22, 30, 38, 50] [(0, (.str (s))), (2, (.int .i64 0)), (3, (.int .i64 3)), (4, (.int .i64 (64 * (byteAt s 0 % 8) + byteAt s 1 % 64))), (5, (.int .i64 2)), (22, (.bool (decide ((↑(List.length s) : Int) ≤ 3)))), (30, (.bool true)), (38, (.bool true)), (50, (.bool (decide (191 < byteAt s 1))))] Heap.empty [(((-9223372036854775808 : Int) ≤ (2 : Int)) ∧ ((2 : Int) ≤ (9223372036854775807 : Int)))] (by kernel_rfl) (.cons (by omega) .nil) ?_
      refine Wc.unroll ?_
      refine Wc.seq ?_
      refine Wc.seq ?_
      refine Wc.whole (b := (base 13 80)) [0, 2, 3, 4, 5, 22, 30, 38, 50] [(0, (.str (s))), (2, (.int .i64 0)), (3, (.int .i64 3)), (4, (.int .i64 (64 * (byteAt s 0 % 8) + byteAt s 1 % 64))), (5, (.int .i64 2)), (22, (.bool (decide ((↑(List.length s) : Int) ≤ 3)))), (30, (.bool true)), (38, (.bool true)), (50, (.bool (decide (191 < byteAt s 1))))] Heap.empty [] (by kernel_rfl) .nil ?_
      refine Wc.condT (by kernel_rfl) (by kernel_rfl) ?_
      refine Wc.skip ?_
      refine Wc.seq ?_
      refine Wc.block ?_
      refine Wc.seq ?_
      refine Wc.seq ?_
      refine Wc.enter ?_
      refine Wl.batch (b := (base 13 80)) 0 5 [0, 2, 3, 4, 5, 22, 30, 38, 45, 50] [(0, (.str (s))), (2, (.int .i64 0)), (3, (.int .i64 3)), (4, (.int .i64 (64 * (byteAt s 0 % 8) + byteAt s 1 % 64))), (5, (.int .i64 2)), (22, (.bool (decide ((↑(List.length s) : Int) ≤ 3)))), (30, (.bool true)), (38, (.bool true)), (45, (.bool (decide (byteAt s 2 < 128)))), (50, (.bool (decide (191 < byteAt s 1))))] Heap.empty [(((0 : Int) ≤ (2 : Int)) ∧ ((2 : Int) < (↑(List.length s) : Int)))] (by kernel_rfl) rfl (.cons (by omega) .nil) ?_
      by_cases gb2 : byteAt s 2 < 128
      · refine Wl.known [(0, (.str (s))), (2, (.int .i64 0)), (3, (.int .i64 3)), (4, (.int .i64 (64 * (byteAt s 0 % 8) + byteAt s 1 % 64))), (5, (.int .i64 2)), (22, (.bool (decide ((↑(List.length s) : Int) ≤ 3)))), (30, (.bool true)), (38, (.bool true)), (45, (.bool true)), (50, (.bool (decide (191 < byteAt s 1))))] (by have e := decide_eq_true (show byteAt s 2 < 128 from gb2); simp only [e] <;> rfl) ?_
        refine Wl.batch (b := (base 13 80)) 5 10 [0, 2, 3, 4, 5, 22, 30, 38, 50] [(0, (.str (s))), (2, (.int .i64 0)), (3, (.int .i64 3)), (4, (.int .i64 (64 * (byteAt s 0 % 8) + byteAt s 1 % 64))), (5, (.int .i64 2)), (22, (.bool (decide ((↑(List.length s) : Int) ≤ 3)))), (30, (.bool true)), (38, (.bool true)), (50, (.bool true))] Heap.empty [] (by kernel_rfl) rfl .nil ?_
        refine Wl.done 10 rfl ?_
        refine Wc.condT (by kernel_rfl) (by kernel_rfl) ?_
        refine Wc.seq ?_
        refine Wc.whole (b := (base 13 80)) [0, 2, 3, 4, 5, 22, 30, 38, 50] [(0, (.str (s))), (2, (.int .i64 0)), (3, (.int .i64 3)), (4, (.int .i64 (64 * (byteAt s 0 % 8) + byteAt s 1 % 64))), (5, (.int .i64 2)), (22, (.bool (decide ((↑(List.length s) : Int) ≤ 3)))), (30, (.bool true)), (38, (.bool true)), (50, (.bool true))] Heap.empty [] (by kernel_rfl) .nil ?_
        refine Wc.ret ?_
        refine blockX.ret ?_
        refine blockX.ret ?_
        refine retX.mk (.int .i64 0) ⟨rfl, rfl⟩ (by kernel_rfl) ?_
        have e : one s = 0 := by rw [ho, if_neg (by omega)]
        rw [e]; rfl
      · refine Wl.known [(0, (.str (s))), (2, (.int .i64 0)), (3, (.int .i64 3)), (4, (.int .i64 (64 * (byteAt s 0 % 8) + byteAt s 1 % 64))), (5, (.int .i64 2)), (22, (.bool (decide ((↑(List.length s) : Int) ≤ 3)))), (30, (.bool true)), (38, (.bool true)), (45, (.bool false)), (50, (.bool (decide (191 < byteAt s 1))))] (by have e := decide_eq_false (show ¬ (byteAt s 2 < 128) from gb2); simp only [e] <;> rfl) ?_
        refine Wl.batch (b := (base 13 80)) 5 10 [0, 2, 3, 4, 5, 22, 30, 38, 50] [(0, (.str (s))), (2, (.int .i64 0)), (3, (.int .i64 3)), (4, (.int .i64 (64 * (byteAt s 0 % 8) + byteAt s 1 % 64))), (5, (.int .i64 2)), (22, (.bool (decide ((↑(List.length s) : Int) ≤ 3)))), (30, (.bool true)), (38, (.bool true)), (50, (.bool (decide (191 < byteAt s 2))))] Heap.empty [(((0 : Int) ≤ (2 : Int)) ∧ ((2 : Int) < (↑(List.length s) : Int)))] (by kernel_rfl) rfl (.cons (by omega) .nil) ?_
        refine Wl.done 10 rfl ?_
        refine Wc.condP (p := 191 < byteAt s 2) (by kernel_rfl) (by kernel_rfl) (fun c2 => ?_) (fun c2 => ?_)
        · refine Wc.seq ?_
          refine Wc.whole (b := (base 13 80)) [0, 2, 3, 4, 5, 22, 30, 38, 50] [(0, (.str (s))), (2, (.int .i64 0)), (3, (.int .i64 3)), (4, (.int .i64 (64 * (byteAt s 0 % 8) + byteAt s 1 % 64))), (5, (.int .i64 2)), (22, (.bool (decide ((↑(List.length s) : Int) ≤ 3)))), (30, (.bool true)), (38, (.bool true)), (50, (.bool (decide (191 < byteAt s 2))))] Heap.empty [] (by kernel_rfl) .nil ?_
          refine Wc.ret ?_
          refine blockX.ret ?_
          refine blockX.ret ?_
          refine retX.mk (.int .i64 0) ⟨rfl, rfl⟩ (by kernel_rfl) ?_
          have e : one s = 0 := by rw [ho, if_neg (by omega)]
          rw [e]; rfl
        · refine Wc.skip ?_
          refine Wc.whole (b := (base 13 80)) [0, 2, 3, 4, 5, 22, 30, 38, 50] [(0, (.str (s))), (2, (.int .i64 0)), (3, (.int .i64 3)), (4, (.int .i64 (64 * (64 * (byteAt s 0 % 8) + byteAt s 1 % 64) + byteAt s 2 % 64))), (5, (.int .i64 2)), (22, (.bool (decide ((↑(List.length s) : Int) ≤ 3)))), (30, (.bool true)), (38, (.bool true)), (50, (.bool (decide (191 < byteAt s 2))))] Heap.empty [(((-9223372036854775808 : Int) ≤ (64 : Int) * ((64 : Int) * (byteAt s (0 : Int) % (8 : Int)) + byteAt s (1 : Int) % (64 : Int))) ∧ ((64 : Int) * ((64 : Int) * (byteAt s (0 : Int) % (8 : Int)) + byteAt s (1 : Int) % (64 : Int)) ≤ (9223372036854775807 : Int))), (((0 : Int) ≤ (2 : Int)) ∧ ((2 : Int) < (↑(List.length s) : Int))), (((0 : Int) ≤ byteAt s (2 : Int)) ∧ ((0 : Int) < (64 : Int))), (((-9223372036854775808 : Int) ≤ byteAt s (2 : Int) % (64 : Int)) ∧ (byteAt s (2 : Int) % (64 : Int) ≤ (9223372036854775807 : Int))), (((-9223372036854775808 : Int) ≤ (64 : Int) * ((64 : Int) * (byteAt s (0 : Int) % (8 : Int)) + byteAt s (1 : Int) % (64 : Int)) + byteAt s (2 : Int) % (64 : Int)) ∧ ((64 : Int) * ((64 : Int) * (byteAt s (0 : Int) % (8 : Int)) + byteAt s (1 : Int) % (64 : Int)) + byteAt s (2 : Int) % (64 : Int) ≤ (9223372036854775807 : Int)))] (by kernel_rfl) (.cons (by omega) (.cons (by omega) (.cons (by omega) (.cons (by omega) (.cons (by omega) .nil))))) ?_
          refine Wc.whole (b := (base 13 80)) [0, 2, 3, 4, 5, 22, 30, 38, 50] [(0, (.str (s))), (2, (.int .i64 0)), (3, (.int .i64 3)), (4, (.int .i64 (64 * (64 * (byteAt s 0 % 8) + byteAt s 1 % 64) + byteAt s 2 % 64))), (5, (.int .i64 3)), (22, (.bool (decide ((↑(List.length s) : Int) ≤ 3)))), (30, (.bool true)), (38, (.bool true)), (50, (.bool (decide (191 < byteAt s 2))))] Heap.empty [(((-9223372036854775808 : Int) ≤ (3 : Int)) ∧ ((3 : Int) ≤ (9223372036854775807 : Int)))] (by kernel_rfl) (.cons (by omega) .nil) ?_
          refine Wc.unroll ?_
          refine Wc.seq ?_
          refine Wc.seq ?_
          refine Wc.whole (b := (base 13 80)) [0, 2, 3, 4, 5, 22, 30, 38, 50] [(0, (.str (s))), (2, (.int .i64 0)), (3, (.int .i64 3)), (4, (.int .i64 (64 * (64 * (byteAt s 0 % 8) + byteAt s 1 % 64) + byteAt s 2 % 64))), (5, (.int .i64 3)), (22, (.bool (decide ((↑(List.length s) : Int) ≤ 3)))), (30, (.bool true)), (38, (.bool true)), (50, (.bool (decide (191 < byteAt s 2))))] Heap.empty [] (by kernel_rfl) .nil ?_
          refine Wc.condT (by kernel_rfl) (by kernel_rfl) ?_
          refine Wc.skip ?_
          refine Wc.seq ?_
          refine Wc.block ?_
          refine Wc.seq ?_
          refine Wc.seq ?_
          refine Wc.enter ?_
          refine Wl.batch (b := (base 13 80)) 0 5 [0, 2, 3, 4, 5, 22, 30, 38, 45, 50] [(0, (.str (s))), (2, (.int .i64 0)), (3, (.int .i64 3)), (4, (.int .i64 (64 * (64 * (byteAt s 0 % 8) + byteAt s 1 % 64) + byteAt s 2 % 64))), (5, (.int .i64 3)), (22, (.bool (decide ((↑(List.length s) : Int) ≤ 3)))), (30, (.bool true)), (38, (.bool true)), (45, (.bool (decide (byteAt s 3 < 128)))), (50, (.bool (decide (191 < byteAt s 2))))] Heap.empty [(((0 : Int) ≤ (3 : Int)) ∧ ((3 : Int) < (↑(List.length s) : Int)))] (by kernel_rfl) rfl (.cons (by omega) .nil) ?_
          by_cases gc2 : byteAt s 3 < 128
          · refine Wl.known [(0, (.str (s))), (2, (.int .i64 0)), (3, (.int .i64 3)), (4, (.int .i64 (64 * (64 * (byteAt s 0 % 8) + byteAt s 1 % 64) + byteAt s 2 % 64))), (5, (.int .i64 3)), (22, (.bool (decide ((↑(List.length s) : Int) ≤ 3)))), (30, (.bool true)), (38, (.bool true)), (45, (.bool true)), (50, (.bool (decide (191 < byteAt s 2))))] (by have e := decide_eq_true (show byteAt s 3 < 128 from gc2); simp only [e] <;> rfl) ?_
            refine Wl.batch (b := (base 13 80)) 5 10 [0, 2, 3, 4, 5, 22, 30, 38, 50] [(0, (.str (s))), (2, (.int .i64 0)), (3, (.int .i64 3)), (4, (.int .i64 (64 * (64 * (byteAt s 0 % 8) + byteAt s 1 % 64) + byteAt s 2 % 64))), (5, (.int .i64 3)), (22, (.bool (decide ((↑(List.length s) : Int) ≤ 3)))), (30, (.bool true)), (38, (.bool true)), (50, (.bool true))] Heap.empty [] (by kernel_rfl) rfl .nil ?_
            refine Wl.done 10 rfl ?_
            refine Wc.condT (by kernel_rfl) (by kernel_rfl) ?_
            refine Wc.seq ?_
            refine Wc.whole (b := (base 13 80)) [0, 2, 3, 4, 5, 22, 30, 38, 50] [(0, (.str (s))), (2, (.int .i64 0)), (3, (.int .i64 3)), (4, (.int .i64 (64 * (64 * (byteAt s 0 % 8) + byteAt s 1 % 64) + byteAt s 2 % 64))), (5, (.int .i64 3)), (22, (.bool (decide ((↑(List.length s) : Int) ≤ 3)))), (30, (.bool true)), (38, (.bool true)), (50, (.bool true))] Heap.empty [] (by kernel_rfl) .nil ?_
            refine Wc.ret ?_
            refine blockX.ret ?_
            refine blockX.ret ?_
            refine retX.mk (.int .i64 0) ⟨rfl, rfl⟩ (by kernel_rfl) ?_
            have e : one s = 0 := by rw [ho, if_neg (by omega)]
            rw [e]; rfl
          · refine Wl.known [(0, (.str (s))), (2, (.int .i64 0)), (3, (.int .i64 3)), (4, (.int .i64 (64 * (64 * (byteAt s 0 % 8) + byteAt s 1 % 64) + byteAt s 2 % 64))), (5, (.int .i64 3)), (22, (.bool (decide ((↑(List.length s) : Int) ≤ 3)))), (30, (.bool true)), (38, (.bool true)), (45, (.bool false)), (50, (.bool (decide (191 < byteAt s 2))))] (by have e := decide_eq_false (show ¬ (byteAt s 3 < 128) from gc2); simp only [e] <;> rfl) ?_
            refine Wl.batch (b := (base 13 80)) 5 10 [0, 2, 3, 4, 5, 22, 30, 38, 50] [(0, (.str (s))), (2, (.int .i64 0)), (3, (.int .i64 3)), (4, (.int .i64 (64 * (64 * (byteAt s 0 % 8) + byteAt s 1 % 64) + byteAt s 2 % 64))), (5, (.int .i64 3)), (22, (.bool (decide ((↑(List.length s) : Int) ≤ 3)))), (30, (.bool true)), (38, (.bool true)), (50, (.bool (decide (191 < byteAt s 3))))] Heap.empty [(((0 : Int) ≤ (3 : Int)) ∧ ((3 : Int) < (↑(List.length s) : Int)))] (by kernel_rfl) rfl (.cons (by omega) .nil) ?_
            refine Wl.done 10 rfl ?_
            refine Wc.condP (p := 191 < byteAt s 3) (by kernel_rfl) (by kernel_rfl) (fun c2 => ?_) (fun c2 => ?_)
            · refine Wc.seq ?_
              refine Wc.whole (b := (base 13 80)) [0, 2, 3, 4, 5, 22, 30, 38, 50] [(0, (.str (s))), (2, (.int .i64 0)), (3, (.int .i64 3)), (4, (.int .i64 (64 * (64 * (byteAt s 0 % 8) + byteAt s 1 % 64) + byteAt s 2 % 64))), (5, (.int .i64 3)), (22, (.bool (decide ((↑(List.length s) : Int) ≤ 3)))), (30, (.bool true)), (38, (.bool true)), (50, (.bool (decide (191 < byteAt s 3))))] Heap.empty [] (by kernel_rfl) .nil ?_
              refine Wc.ret ?_
              refine blockX.ret ?_
              refine blockX.ret ?_
              refine retX.mk (.int .i64 0) ⟨rfl, rfl⟩ (by kernel_rfl) ?_
              have e : one s = 0 := by rw [ho, if_neg (by omega)]
              rw [e]; rfl
            · refine Wc.skip ?_
              refine Wc.whole (b := (base 13 80)) [0, 2, 3, 4, 5, 22, 30, 38, 50] [(0, (.str (s))), (2, (.int .i64 0)), (3, (.int .i64 3)), (4, (.int .i64 (64 * (64 * (64 * (byteAt s 0 % 8) + byteAt s 1 % 64) + byteAt s 2 % 64) + byteAt s 3 % 64))), (5, (.int .i64 3)), (22, (.bool (decide ((↑(List.length s) : Int) ≤ 3)))), (30, (.bool true)), (38, (.bool true)), (50, (.bool (decide (191 < byteAt s 3))))] Heap.empty [(((-9223372036854775808 : Int) ≤ (64 : Int) * ((64 : Int) * ((64 : Int) * (byteAt s (0 : Int) % (8 : Int)) + byteAt s (1 : Int) % (64 : Int)) + byteAt s (2 : Int) % (64 : Int))) ∧ ((64 : Int) * ((64 : Int) * ((64 : Int) * (byteAt s (0 : Int) % (8 : Int)) + byteAt s (1 : Int) % (64 : Int)) + byteAt s (2 : Int) % (64 : Int)) ≤ (9223372036854775807 : Int))), (((0 : Int) ≤ (3 : Int)) ∧ ((3 : Int) < (↑(List.length s) : Int))), (((0 : Int) ≤ byteAt s (3 : Int)) ∧ ((0 : Int) < (64 : Int))), (((-9223372036854775808 : Int) ≤ byteAt s (3 : Int) % (64 : Int)) ∧ (byteAt s (3 : Int) % (64 : Int) ≤ (9223372036854775807 : Int))), (((-9223372036854775808 : Int) ≤ (64 : Int) * ((64 : Int) * ((64 : Int) * (byteAt s (0 : Int) % (8 : Int)) + byteAt s (1 : Int) % (64 : Int)) + byteAt s (2 : Int) % (64 : Int)) + byteAt s (3 : Int) % (64 : Int)) ∧ ((64 : Int) * ((64 : Int) * ((64 : Int) * (byteAt s (0 : Int) % (8 : Int)) + byteAt s (1 : Int) % (64 : Int)) + byteAt s (2 : Int) % (64 : Int)) + byteAt s (3 : Int) % (64 : Int) ≤ (9223372036854775807 : Int)))] (by kernel_rfl) (.cons (by omega) (.cons (by omega) (.cons (by omega) (.cons (by omega) (.cons (by omega) .nil))))) ?_
              refine Wc.whole (b := (base 13 80)) [0, 2, 3, 4, 5, 22, 30, 38, 50] [(0, (.str (s))), (2, (.int .i64 0)), (3, (.int .i64 3)), (4, (.int .i64 (64 * (64 * (64 * (byteAt s 0 % 8) + byteAt s 1 % 64) + byteAt s 2 % 64) + byteAt s 3 % 64))), (5, (.int .i64 4)), (22, (.bool (decide ((↑(List.length s) : Int) ≤ 3)))), (30, (.bool true)), (38, (.bool true)), (50, (.bool (decide (191 < byteAt s 3))))] Heap.empty [(((-9223372036854775808 : Int) ≤ (4 : Int)) ∧ ((4 : Int) ≤ (9223372036854775807 : Int)))] (by kernel_rfl) (.cons (by omega) .nil) ?_
              refine Wc.unroll ?_
              refine Wc.seq ?_
              refine Wc.seq ?_
              refine Wc.whole (b := (base 13 80)) [0, 2, 3, 4, 5, 22, 30, 38, 50] [(0, (.str (s))), (2, (.int .i64 0)), (3, (.int .i64 3)), (4, (.int .i64 (64 * (64 * (64 * (byteAt s 0 % 8) + byteAt s 1 % 64) + byteAt s 2 % 64) + byteAt s 3 % 64))), (5, (.int .i64 4)), (22, (.bool (decide ((↑(List.length s) : Int) ≤ 3)))), (30, (.bool true)), (38, (.bool false)), (50, (.bool (decide (191 < byteAt s 3))))] Heap.empty [] (by kernel_rfl) .nil ?_
              refine Wc.condF (by kernel_rfl) (by kernel_rfl) ?_
              refine Wc.exit ?_
              refine blockX.here ?_
              refine Wc.seq ?_
              refine Wc.whole (b := (base 13 80)) [0, 2, 3, 4, 5, 6, 22, 30, 38, 50] [(0, (.str (s))), (2, (.int .i64 0)), (3, (.int .i64 3)), (4, (.int .i64 (64 * (64 * (64 * (byteAt s 0 % 8) + byteAt s 1 % 64) + byteAt s 2 % 64) + byteAt s 3 % 64))), (5, (.int .i64 4)), (6, (.int .i64 65536)), (22, (.bool (decide ((↑(List.length s) : Int) ≤ 3)))), (30, (.bool true)), (38, (.bool false)), (50, (.bool (decide (191 < byteAt s 3))))] Heap.empty [(((0 : Int) ≤ (3 : Int)) ∧ ((3 : Int) < (4 : Int)))] (by kernel_rfl) (.cons (by omega) .nil) ?_
              refine Wc.seq ?_
              refine Wc.seq ?_
              refine Wc.enter ?_
              refine Wl.batch (b := (base 13 80)) 0 4 [0, 2, 3, 4, 5, 6, 22, 30, 38, 50, 66] [(0, (.str (s))), (2, (.int .i64 0)), (3, (.int .i64 3)), (4, (.int .i64 (64 * (64 * (64 * (byteAt s 0 % 8) + byteAt s 1 % 64) + byteAt s 2 % 64) + byteAt s 3 % 64))), (5, (.int .i64 4)), (6, (.int .i64 65536)), (22, (.bool (decide ((↑(List.length s) : Int) ≤ 3)))), (30, (.bool true)), (38, (.bool false)), (50, (.bool (decide (191 < byteAt s 3)))), (66, (.bool (decide (64 * (64 * (64 * (byteAt s 0 % 8) + byteAt s 1 % 64) + byteAt s 2 % 64) + byteAt s 3 % 64 < 65536))))] Heap.empty [] (by kernel_rfl) rfl .nil ?_
              by_cases gd2 : 64 * (64 * (64 * (byteAt s 0 % 8) + byteAt s 1 % 64) + byteAt s 2 % 64) + byteAt s 3 % 64 < 65536
              · refine Wl.known [(0, (.str (s))), (2, (.int .i64 0)), (3, (.int .i64 3)), (4, (.int .i64 (64 * (64 * (64 * (byteAt s 0 % 8) + byteAt s 1 % 64) + byteAt s 2 % 64) + byteAt s 3 % 64))), (5, (.int .i64 4)), (6, (.int .i64 65536)), (22, (.bool (decide ((↑(List.length s) : Int) ≤ 3)))), (30, (.bool true)), (38, (.bool false)), (50, (.bool (decide (191 < byteAt s 3)))), (66, (.bool true))] (by have e := decide_eq_true (show 64 * (64 * (64 * (byteAt s 0 % 8) + byteAt s 1 % 64) + byteAt s 2 % 64) + byteAt s 3 % 64 < 65536 from gd2); simp only [e] <;> rfl) ?_
                refine Wl.batch (b := (base 13 80)) 4 15 [0, 2, 3, 4, 5, 6, 22, 30, 38, 50, 77] [(0, (.str (s))), (2, (.int .i64 0)), (3, (.int .i64 3)), (4, (.int .i64 (64 * (64 * (64 * (byteAt s 0 % 8) + byteAt s 1 % 64) + byteAt s 2 % 64) + byteAt s 3 % 64))), (5, (.int .i64 4)), (6, (.int .i64 65536)), (22, (.bool (decide ((↑(List.length s) : Int) ≤ 3)))), (30, (.bool true)), (38, (.bool false)), (50, (.bool (decide (191 < byteAt s 3)))), (77, (.bool true))] Heap.empty [] (by kernel_rfl) rfl .nil ?_
                refine Wl.done 15 rfl ?_
                refine Wc.condT (by kernel_rfl) (by kernel_rfl) ?_
                refine Wc.seq ?_
                refine Wc.whole (b := (base 13 80)) [0, 2, 3, 4, 5, 6, 22, 30, 38, 50, 77] [(0, (.str (s))), (2, (.int .i64 0)), (3, (.int .i64 3)), (4, (.int .i64 (64 * (64 * (64 * (byteAt s 0 % 8) + byteAt s 1 % 64) + byteAt s 2 % 64) + byteAt s 3 % 64))), (5, (.int .i64 4)), (6, (.int .i64 65536)), (22, (.bool (decide ((↑(List.length s) : Int) ≤ 3)))), (30, (.bool true)), (38, (.bool false)), (50, (.bool (decide (191 < byteAt s 3)))), (77, (.bool true))] Heap.empty [] (by kernel_rfl) .nil ?_
                refine Wc.ret ?_
                refine retX.mk (.int .i64 0) ⟨rfl, rfl⟩ (by kernel_rfl) ?_
                have e : one s = 0 := by rw [ho, if_neg (by omega)]
                rw [e]; rfl
              · refine Wl.known [(0, (.str (s))), (2, (.int .i64 0)), (3, (.int .i64 3)), (4, (.int .i64 (64 * (64 * (64 * (byteAt s 0 % 8) + byteAt s 1 % 64) + byteAt s 2 % 64) + byteAt s 3 % 64))), (5, (.int .i64 4)), (6, (.int .i64 65536)), (22, (.bool (decide ((↑(List.length s) : Int) ≤ 3)))), (30, (.bool true)), (38, (.bool false)), (50, (.bool (decide (191 < byteAt s 3)))), (66, (.bool false))] (by have e := decide_eq_false (show ¬ (64 * (64 * (64 * (byteAt s 0 % 8) + byteAt s 1 % 64) + byteAt s 2 % 64) + byteAt s 3 % 64 < 65536) from gd2); simp only [e] <;> rfl) ?_
                refine Wl.batch (b := (base 13 80)) 4 7 [0, 2, 3, 4, 5, 6, 22, 30, 38, 50, 66, 69] [(0, (.str (s))), (2, (.int .i64 0)), (3, (.int .i64 3)), (4, (.int .i64 (64 * (64 * (64 * (byteAt s 0 % 8) + byteAt s 1 % 64) + byteAt s 2 % 64) + byteAt s 3 % 64))), (5, (.int .i64 4)), (6, (.int .i64 65536)), (22, (.bool (decide ((↑(List.length s) : Int) ≤ 3)))), (30, (.bool true)), (38, (.bool false)), (50, (.bool (decide (191 < byteAt s 3)))), (66, (.bool false)), (69, (.bool (decide (55296 ≤ 64 * (64 * (64 * (byteAt s 0 % 8) + byteAt s 1 % 64) + byteAt s 2 % 64) + byteAt s 3 % 64))))] Heap.empty [] (by kernel_rfl) rfl .nil ?_
                refine Wl.known [(0, (.str (s))), (2, (.int .i64 0)), (3, (.int .i64 3)), (4, (.int .i64 (64 * (64 * (64 * (byteAt s 0 % 8) + byteAt s 1 % 64) + byteAt s 2 % 64) + byteAt s 3 % 64))), (5, (.int .i64 4)), (6, (.int .i64 65536)), (22, (.bool (decide ((↑(List.length s) : Int) ≤ 3)))), (30, (.bool true)), (38, (.bool false)), (50, (.bool (decide (191 < byteAt s 3)))), (66, (.bool false)), (69, (.bool true))] (by have e := decide_eq_true (show 55296 ≤ 64 * (64 * (64 * (byteAt s 0 % 8) + byteAt s 1 % 64) + byteAt s 2 % 64) + byteAt s 3 % 64 from (by omega)); simp only [e] <;> rfl) ?_
                refine Wl.batch (b := (base 13 80)) 7 12 [0, 2, 3, 4, 5, 6, 22, 30, 38, 50, 74] [(0, (.str (s))), (2, (.int .i64 0)), (3, (.int .i64 3)), (4, (.int .i64 (64 * (64 * (64 * (byteAt s 0 % 8) + byteAt s 1 % 64) + byteAt s 2 % 64) + byteAt s 3 % 64))), (5, (.int .i64 4)), (6, (.int .i64 65536)), (22, (.bool (decide ((↑(List.length s) : Int) ≤ 3)))), (30, (.bool true)), (38, (.bool false)), (50, (.bool (decide (191 < byteAt s 3)))), (74, (.bool (decide (64 * (64 * (64 * (byteAt s 0 % 8) + byteAt s 1 % 64) + byteAt s 2 % 64) + byteAt s 3 % 64 ≤ 57343))))] Heap.empty [] (by kernel_rfl) rfl .nil ?_
                refine Wl.known [(0, (.str (s))), (2, (.int .i64 0)), (3, (.int .i64 3)), (4, (.int .i64 (64 * (64 * (64 * (byteAt s 0 % 8) + byteAt s 1 % 64) + byteAt s 2 % 64) + byteAt s 3 % 64))), (5, (.int .i64 4)), (6, (.int .i64 65536)), (22, (.bool (decide ((↑(List.length s) : Int) ≤ 3)))), (30, (.bool true)), (38, (.bool false)), (50, (.bool (decide (191 < byteAt s 3)))), (74, (.bool false))] (by have e := decide_eq_false (show ¬ (64 * (64 * (64 * (byteAt s 0 % 8) + byteAt s 1 % 64) + byteAt s 2 % 64) + byteAt s 3 % 64 ≤ 57343) from (by omega)); simp only [e] <;> rfl) ?_
                refine Wl.batch (b := (base 13 80)) 12 15 [0, 2, 3, 4, 5, 6, 22, 30, 38, 50, 77] [(0, (.str (s))), (2, (.int .i64 0)), (3, (.int .i64 3)), (4, (.int .i64 (64 * (64 * (64 * (byteAt s 0 % 8) + byteAt s 1 % 64) + byteAt s 2 % 64) + byteAt s 3 % 64))), (5, (.int .i64 4)), (6, (.int .i64 65536)), (22, (.bool (decide ((↑(List.length s) : Int) ≤ 3)))), (30, (.bool true)), (38, (.bool false)), (50, (.bool (decide (191 < byteAt s 3)))), (77, (.bool (decide (1114111 < 64 * (64 * (64 * (byteAt s 0 % 8) + byteAt s 1 % 64) + byteAt s 2 % 64) + byteAt s 3 % 64))))] Heap.empty [] (by kernel_rfl) rfl .nil ?_
                refine Wl.done 15 rfl ?_
                refine Wc.condP (p := 1114111 < 64 * (64 * (64 * (byteAt s 0 % 8) + byteAt s 1 % 64) + byteAt s 2 % 64) + byteAt s 3 % 64) (by kernel_rfl) (by kernel_rfl) (fun c4 => ?_) (fun c4 => ?_)
                · refine Wc.seq ?_
                  refine Wc.whole (b := (base 13 80)) [0, 2, 3, 4, 5, 6, 22, 30, 38, 50, 77] [(0, (.str (s))), (2, (.int .i64 0)), (3, (.int .i64 3)), (4, (.int .i64 (64 * (64 * (64 * (byteAt s 0 % 8) + byteAt s 1 % 64) + byteAt s 2 % 64) + byteAt s 3 % 64))), (5, (.int .i64 4)), (6, (.int .i64 65536)), (22, (.bool (decide ((↑(List.length s) : Int) ≤ 3)))), (30, (.bool true)), (38, (.bool false)), (50, (.bool (decide (191 < byteAt s 3)))), (77, (.bool (decide (1114111 < 64 * (64 * (64 * (byteAt s 0 % 8) + byteAt s 1 % 64) + byteAt s 2 % 64) + byteAt s 3 % 64))))] Heap.empty [] (by kernel_rfl) .nil ?_
                  refine Wc.ret ?_
                  refine retX.mk (.int .i64 0) ⟨rfl, rfl⟩ (by kernel_rfl) ?_
                  have e : one s = 0 := by rw [ho, if_neg (by omega)]
                  rw [e]; rfl
                · refine Wc.skip ?_
                  refine Wc.seq ?_
                  refine Wc.whole (b := (base 13 80)) [0, 2, 3, 4, 5, 6, 22, 30, 38, 50, 77] [(0, (.str (s))), (2, (.int .i64 4)), (3, (.int .i64 3)), (4, (.int .i64 (64 * (64 * (64 * (byteAt s 0 % 8) + byteAt s 1 % 64) + byteAt s 2 % 64) + byteAt s 3 % 64))), (5, (.int .i64 4)), (6, (.int .i64 65536)), (22, (.bool (decide ((↑(List.length s) : Int) ≤ 3)))), (30, (.bool true)), (38, (.bool false)), (50, (.bool (decide (191 < byteAt s 3)))), (77, (.bool (decide (1114111 < 64 * (64 * (64 * (byteAt s 0 % 8) + byteAt s 1 % 64) + byteAt s 2 % 64) + byteAt s 3 % 64))))] Heap.empty [(((-9223372036854775808 : Int) ≤ (4 : Int)) ∧ ((4 : Int) ≤ (9223372036854775807 : Int)))] (by kernel_rfl) (.cons (by omega) .nil) ?_
                  refine Wc.ret ?_
                  refine retX.mk (.int .i64 4) ⟨rfl, rfl⟩ (by kernel_rfl) ?_
                  have e : one s = 4 := by rw [ho, if_pos (by omega)]
                  rw [e]; rfl
theorem c33 (s : List UInt8) : Cp Tryd.prog EU 13 [.str s] (.int .i64 ((one s : Nat) : Int)) := by
  by_cases hs : s = []
  · subst hs; exact c33nil
  · have e0 : byteAt s 0 = (atN s 0 : Int) := rfl
    have q0 := atN_lt s 0
    have hl : 0 < s.length := List.length_pos_iff.2 hs
    have ho := one_eq hs
    by_cases a1 : byteAt s 0 < 128
    · rw [oneG_0 (by omega)] at ho
      rw [ho]
      exact c33a s hs (by unfold moreI; rw [if_pos a1]) a1 (by omega)
    · by_cases a2 : 194 ≤ byteAt s 0 ∧ byteAt s 0 ≤ 223
      · by_cases hn : 1 < s.length
        · exact c33_1 s hs hn a2
        · rw [oneG_1 (by omega), if_neg (by simp only [decide_eq_true_eq]; omega)] at ho
          rw [ho]
          exact c33short s hs 1 (by omega) (by omega) (by unfold moreI; rw [if_neg a1, if_pos a2])
      · by_cases a3 : 224 ≤ byteAt s 0 ∧ byteAt s 0 ≤ 239
        · by_cases hn : 2 < s.length
          · exact c33_2 s hs hn a3
          · rw [oneG_2 (by omega), if_neg (by simp only [decide_eq_true_eq]; omega)] at ho
            rw [ho]
            exact c33short s hs 2 (by omega) (by omega) (by unfold moreI; rw [if_neg a1, if_neg a2, if_pos a3])
        · by_cases a4 : 240 ≤ byteAt s 0 ∧ byteAt s 0 ≤ 244
          · by_cases hn : 3 < s.length
            · exact c33_3 s hs hn a4
            · rw [oneG_3 (by omega), if_neg (by simp only [decide_eq_true_eq]; omega)] at ho
              rw [ho]
              exact c33short s hs 3 (by omega) (by omega) (by unfold moreI; rw [if_neg a1, if_neg a2, if_neg a3, if_pos a4])
          · have hm : moreB (atN s 0) = -1 := by
              unfold moreB
              rw [if_neg (by omega), if_neg (by omega), if_neg (by omega), if_neg (by omega)]
            rw [oneG_none hm q0] at ho
            rw [ho]
            exact c33none s hs (by unfold moreI; rw [if_neg a1, if_neg a2, if_neg a3, if_neg a4])
theorem c23 (s : List UInt8) (hs : s.length ≤ 1000) : Cp Tryd.prog EU 7 [.str s] (.int .i64 ((wide s : Nat) : Int)) := by
  refine Cp.body (fn := Tryd.f7) Tryd.func7 rfl (by kernel_rfl) ?_
  refine Wc.seq ?_
  refine Wc.whole (b := (base 7 14)) [0, 2] [(0, (.str (s))), (2, (.int .i64 0))] Heap.empty [] (by kernel_rfl) .nil ?_
  refine Wc.seq ?_
  refine Wc.whole (b := (base 7 14)) [0, 2, 3] [(0, (.str (s))), (2, (.int .i64 0)), (3, (.int .i64 0))] Heap.empty [] (by kernel_rfl) .nil ?_
  refine Wc.seq ?_
  refine Wc.block ?_
  refine Wc.loop (α := Nat × Nat) (fun a => (base 7 14).on [(0, .str (s.drop a.1)), (2, .int .i64 0), (3, .int .i64 (a.2 : Int))]) (fun _ => Heap.empty) (fun a => a.1 ≤ s.length ∧ a.2 ≤ a.1 ∧ wide s = a.2 + wide (s.drop a.1)) (fun a => s.length - a.1) (0, 0) (Le.on [0, 2, 3] (by kernel_rfl)) rfl ⟨Nat.zero_le _, Nat.le_refl _, by rw [List.drop_zero, Nat.zero_add]⟩ ?_
  rintro ⟨k, n⟩ ⟨hk, hn, hw⟩
  simp only at hk hn hw ⊢
  have ho := one_le (s.drop k)
  rw [List.length_drop] at ho
  refine Wc.seq ?_
  refine Wc.seq ?_
  refine Wc.whole (b := (base 7 14)) [0, 2, 3, 5] [(0, (.str (List.drop k s))), (2, (.int .i64 0)), (3, (.int .i64 ((↑n : Int)))), (5, (.bool (!decide (List.drop k s = []))))] Heap.empty [] (by kernel_rfl) .nil ?_
  refine Wc.condN (p := List.drop k s = []) (by kernel_rfl) (by kernel_rfl) (fun c1 => ?_) (fun c1 => ?_)
  · refine Wc.skip ?_
    refine Wc.block ?_
    refine Wc.seq ?_
    refine Wc.enter ?_
    refine Wl.batch (b := (base 7 14)) 0 2 [0, 2, 3, 5, 6, 7] [(0, (.str (List.drop k s))), (2, (.int .i64 0)), (3, (.int .i64 ((↑n : Int)))), (5, (.bool (!decide (List.drop k s = [])))), (6, (.str (List.drop k s))), (7, (.str (List.drop k s)))] Heap.empty [] (by kernel_rfl) rfl .nil ?_
    refine Wl.callP (b := (base 7 14)) (h1 := Heap.empty) (h2 := Heap.empty) (v := (.int .i64 ((↑(one (List.drop k s)) : Int)))) (d := (some 8)) 2 [0, 2, 3, 5, 6, 8] [(0, (.str (List.drop k s))), (2, (.int .i64 0)), (3, (.int .i64 ((↑n : Int)))), (5, (.bool (!decide (List.drop k s = [])))), (6, (.str (List.drop k s))), (8, (.int .i64 ((↑(one (List.drop k s)) : Int))))] (@Go.AM.c33 (List.drop k s)) (by kernel_rfl) (by kernel_rfl) (by kernel_rfl) ?_
    refine Wl.batch (b := (base 7 14)) 3 6 [0, 2, 3, 5] [(0, (.str (List.drop (Int.toNat (max (↑(one (List.drop k s)) : Int) 1)) (List.drop k s)))), (2, (.int .i64 0)), (3, (.int .i64 ((↑n : Int)))), (5, (.bool (!decide (List.drop k s = []))))] Heap.empty [(((0 : Int) ≤ max (↑(one (List.drop k s)) : Int) (1 : Int)) ∧ (max (↑(one (List.drop k s)) : Int) (1 : Int) ≤ (↑(List.length (List.drop k s)) : Int)))] (by kernel_rfl) rfl (.cons (by have h1 := List.length_pos_iff.2 c1; rw [List.length_drop] at h1 ⊢; omega) .nil) ?_
    refine Wl.done 6 rfl ?_
    refine Wc.whole (b := (base 7 14)) [0, 2, 3, 5] [(0, (.str (List.drop (Int.toNat (max (↑(one (List.drop k s)) : Int) 1)) (List.drop k s)))), (2, (.int .i64 0)), (3, (.int .i64 ((↑n : Int) + 1))), (5, (.bool (!decide (List.drop k s = []))))] Heap.empty [(((-9223372036854775808 : Int) ≤ (↑n : Int) + (1 : Int)) ∧ ((↑n : Int) + (1 : Int) ≤ (9223372036854775807 : Int)))] (by kernel_rfl) (.cons (by omega) .nil) ?_
    have hne : s.drop k ≠ [] := by assumption
    have hlt : k < s.length := by
      rcases Nat.lt_or_ge k s.length with h | h
      · exact h
      · exact absurd (List.drop_eq_nil_of_le h) hne
    have hm := max_one hne
    have hm2 : (max ((one (s.drop k) : Nat) : Int) 1).toNat = (dec (s.drop k)).2 := by omega
    have hd := dec_le hne
    have hp := dec_pos (s.drop k)
    rw [List.length_drop] at hd
    refine ⟨(k + (dec (s.drop k)).2, n + 1), ?_, rfl, ⟨?_, ?_, ?_⟩, ?_⟩
    · simp only
      rw [← List.drop_drop, ← hm2]
      exact Le.on [0, 2, 3] (by kernel_rfl)
    · simp only; omega
    · simp only; omega
    · simp only
      rw [hw, wide_cons hne, List.drop_drop]; omega
    · simp only; omega
  · refine Wc.exit ?_
    refine blockX.here ?_
    refine Wc.seq ?_
    refine Wc.whole (b := (base 7 14)) [0, 2, 3, 5] [(0, (.str (List.drop k s))), (2, (.int .i64 ((↑n : Int)))), (3, (.int .i64 ((↑n : Int)))), (5, (.bool (!decide (List.drop k s = []))))] Heap.empty [] (by kernel_rfl) .nil ?_
    refine Wc.ret ?_
    refine retX.mk (.int .i64 ((↑n : Int))) ⟨rfl, rfl⟩ (by kernel_rfl) ?_
    have hnil : s.drop k = [] := by assumption
    refine congrArg (fun x => some (V.int .i64 x)) ?_
    rw [hw, hnil, wide_nil]; rfl
theorem drop_split {s : List UInt8} {i f : Nat} (hi : i < s.length) (hf : f ≤ i) (hb : byteAt s (i : Int) = 10) : s.drop f = (s.take i).drop f ++ 10 :: s.drop (i + 1) := by
  have e : s.drop i = 10 :: s.drop (i + 1) := by rw [List.drop_eq_getElem_cons hi, (byteAt_ten hi).1 hb]
  conv => lhs; rw [← List.take_append_drop i s]
  rw [List.drop_append_of_le_length (by rw [List.length_take]; omega), e]
theorem no_more {s : List UInt8} {i f : Nat} (hi : i < s.length) (hf : f ≤ i) (hb : ¬ byteAt s (i : Int) = 10) (h : (10 : UInt8) ∉ (s.take i).drop f) : (10 : UInt8) ∉ (s.take (i + 1)).drop f := by
  rw [List.take_succ_eq_append_getElem hi, List.drop_append_of_le_length (by rw [List.length_take]; omega)]
  intro hm
  rcases List.mem_append.1 hm with q | q
  · exact h q
  · exact hb ((byteAt_ten hi).2 (List.mem_singleton.1 q).symm)
theorem c25 (s : List UInt8) (hs : s.length ≤ 1000) : Cp Tryd.prog EU 6 [.str s] (.fsl 9 1 0 ((linesOf s).map .str) none) := by
  refine Cp.body (fn := Tryd.f6) Tryd.func6 rfl (by kernel_rfl) ?_
  refine Wc.seq ?_
  refine Wc.whole (b := (base 6 32)) [0, 2] [(0, (.str (s))), (2, .nils)] Heap.empty [] (by kernel_rfl) .nil ?_
  refine Wc.seq ?_
  refine Wc.whole (b := (base 6 32)) [0, 2, 3] [(0, (.str (s))), (2, .nils), (3, .nils)] Heap.empty [] (by kernel_rfl) .nil ?_
  refine Wc.seq ?_
  refine Wc.whole (b := (base 6 32)) [0, 2, 3, 4] [(0, (.str (s))), (2, .nils), (3, .nils), (4, (.int .i64 0))] Heap.empty [] (by kernel_rfl) .nil ?_
  refine Wc.seq ?_
  refine Wc.seq ?_
  refine Wc.whole (b := (base 6 32)) [0, 2, 3, 4, 5] [(0, (.str (s))), (2, .nils), (3, .nils), (4, (.int .i64 0)), (5, (.int .i64 0))] Heap.empty [] (by kernel_rfl) .nil ?_
  refine Wc.block ?_
  refine Wc.loop (α := Option (List (List UInt8) × Nat) × Nat) (fun a => match a.1 with
      | none => (base 6 32).on [(0, (.str (s))), (2, .nils), (3, .nils), (4, (.int .i64 0)), (5, (.int .i64 (a.2 : Int)))]
      | some (d, f) => (base 6 32).on [(0, (.str (s))), (2, .nils), (3, .sl 0 (d.length - 1) 0 d.length none), (4, (.int .i64 (f : Int))), (5, (.int .i64 (a.2 : Int)))])
    (fun a => match a.1 with
      | none => Heap.empty
      | some (d, _) => hp [.row (d.length - 1) 9 1 0 none (d.map .str)])
    (fun a => match a.1 with
      | none => a.2 ≤ s.length ∧ (10 : UInt8) ∉ s.take a.2
      | some (d, f) => d ≠ [] ∧ d.length ≤ a.2 ∧ a.2 ≤ s.length + 1 ∧ ((a.2 ≤ s.length ∧ f ≤ a.2 ∧ linesOf s = d ++ linesOf (s.drop f) ∧ (10 : UInt8) ∉ (s.take a.2).drop f) ∨ (a.2 = s.length + 1 ∧ linesOf s = d)))
    (fun a => s.length + 1 - a.2) (none, 0) (Le.on [0, 2, 3, 4, 5] (by kernel_rfl)) (by kernel_rfl) ⟨Nat.zero_le _, by simp⟩ ?_
  rintro ⟨_ | ⟨d, f⟩, i⟩ hI
  · simp only at hI ⊢
    obtain ⟨hi, hno⟩ := hI
    refine Wc.seq ?_
    refine Wc.seq ?_
    refine Wc.whole (b := (base 6 32)) [0, 2, 3, 4, 5, 9] [(0, (.str (s))), (2, .nils), (3, .nils), (4, (.int .i64 0)), (5, (.int .i64 ((↑i : Int)))), (9, (.bool (decide ((↑i : Int) ≤ (↑(List.length s) : Int)))))] Heap.empty [] (by kernel_rfl) .nil ?_
    refine Wc.condP (p := (↑i : Int) ≤ (↑(List.length s) : Int)) (by kernel_rfl) (by kernel_rfl) (fun c1 => ?_) (fun c1 => absurd (show (↑i : Int) ≤ (↑(List.length s) : Int) from (by omega)) c1)
    refine Wc.skip ?_
    refine Wc.seq ?_
    refine Wc.block ?_
    refine Wc.seq ?_
    refine Wc.enter ?_
    refine Wl.batch (b := (base 6 32)) 0 5 [0, 2, 3, 4, 5, 9, 16] [(0, (.str (s))), (2, .nils), (3, .nils), (4, (.int .i64 0)), (5, (.int .i64 ((↑i : Int)))), (9, (.bool (decide ((↑i : Int) ≤ (↑(List.length s) : Int))))), (16, (.bool (decide ((↑i : Int) = (↑(List.length s) : Int)))))] Heap.empty [] (by kernel_rfl) rfl .nil ?_
    refine Wl.join (b := (base 6 32)) (p := (↑i : Int) = (↑(List.length s) : Int)) [(0, (.str (s))), (2, .nils), (3, .nils), (4, (.int .i64 0)), (5, (.int .i64 ((↑i : Int)))), (9, (.bool (decide ((↑i : Int) ≤ (↑(List.length s) : Int))))), (21, (.bool (decide (((↑i : Int) = (↑(List.length s) : Int)) ∨ (byteAt s (↑i : Int) = 10)))))] Heap.empty (fun c2 => ?_) (fun c2 => ?_) ?_
    · refine Wl.known [(0, (.str (s))), (2, .nils), (3, .nils), (4, (.int .i64 0)), (5, (.int .i64 ((↑i : Int)))), (9, (.bool (decide ((↑i : Int) ≤ (↑(List.length s) : Int))))), (16, (.bool true))] (by have e := decide_eq_true c2; simp only [e] <;> rfl) ?_
      refine Wl.batch (b := (base 6 32)) 5 10 [0, 2, 3, 4, 5, 9, 21] [(0, (.str (s))), (2, .nils), (3, .nils), (4, (.int .i64 0)), (5, (.int .i64 ((↑i : Int)))), (9, (.bool (decide ((↑i : Int) ≤ (↑(List.length s) : Int))))), (21, (.bool true))] Heap.empty [] (by kernel_rfl) rfl .nil ?_
      refine Wl.done 10 rfl ?_
      exact ⟨Le.on' [0, 2, 3, 4, 5, 9, 21] [(0, (.str (s))), (2, .nils), (3, .nils), (4, (.int .i64 0)), (5, (.int .i64 ((↑i : Int)))), (9, (.bool (decide ((↑i : Int) ≤ (↑(List.length s) : Int))))), (21, (.bool true))] (by kernel_rfl) (by rw [decOr c2] <;> rfl), by kernel_rfl⟩
    · refine Wl.known [(0, (.str (s))), (2, .nils), (3, .nils), (4, (.int .i64 0)), (5, (.int .i64 ((↑i : Int)))), (9, (.bool (decide ((↑i : Int) ≤ (↑(List.length s) : Int))))), (16, (.bool false))] (by have e := decide_eq_false c2; simp only [e] <;> rfl) ?_
      refine Wl.batch (b := (base 6 32)) 5 10 [0, 2, 3, 4, 5, 9, 21] [(0, (.str (s))), (2, .nils), (3, .nils), (4, (.int .i64 0)), (5, (.int .i64 ((↑i : Int)))), (9, (.bool (decide ((↑i : Int) ≤ (↑(List.length s) : Int))))), (21, (.bool (decide (byteAt s (↑i : Int) = 10))))] Heap.empty [(((0 : Int) ≤ (↑i : Int)) ∧ ((↑i : Int) < (↑(List.length s) : Int)))] (by kernel_rfl) rfl (.cons (by omega) .nil) ?_
      refine Wl.done 10 rfl ?_
      exact ⟨Le.on' [0, 2, 3, 4, 5, 9, 21] [(0, (.str (s))), (2, .nils), (3, .nils), (4, (.int .i64 0)), (5, (.int .i64 ((↑i : Int)))), (9, (.bool (decide ((↑i : Int) ≤ (↑(List.length s) : Int))))), (21, (.bool (decide (byteAt s (↑i : Int) = 10))))] (by kernel_rfl) (by rw [decOrF c2] <;> rfl), by kernel_rfl⟩
    refine Wc.condP (p := (↑i : Int) = (↑(List.length s) : Int) ∨ byteAt s (↑i : Int) = 10) (by kernel_rfl) (by kernel_rfl) (fun c3 => ?_) (fun c3 => ?_)
    · refine Wc.seq ?_
      refine Wc.whole (b := (base 6 32)) [0, 2, 3, 4, 5, 9, 21] [(0, (.str (s))), (2, .nils), (3, (.sl 0 0 0 1 none)), (4, (.int .i64 0)), (5, (.int .i64 ((↑i : Int)))), (9, (.bool (decide ((↑i : Int) ≤ (↑(List.length s) : Int))))), (21, (.bool (decide ((↑i : Int) = (↑(List.length s) : Int) ∨ byteAt s (↑i : Int) = 10))))] (hp [.row 0 9 1 0 none [(.str (List.drop 0 (List.take i s)))]]) [(((0 : Int) ≤ (0 : Int)) ∧ (((0 : Int) ≤ (↑i : Int)) ∧ ((↑i : Int) ≤ (↑(List.length s) : Int)))), (([V.str (List.drop (0 : Nat) (List.take i s))] ≠ []) ∧ ((List.length [V.str (List.drop (0 : Nat) (List.take i s))] ≤ (1099511627776 : Nat)) ∧ (List.length [V.str (List.drop (0 : Nat) (List.take i s))] * (16 : Nat) ≤ (1099511627776 : Nat))))] (by kernel_rfl) (.cons (by omega) (.cons (by simp) .nil)) ?_
      refine Wc.whole (b := (base 6 32)) [0, 2, 3, 4, 5, 9, 21] [(0, (.str (s))), (2, .nils), (3, (.sl 0 0 0 1 none)), (4, (.int .i64 ((↑i : Int) + 1))), (5, (.int .i64 ((↑i : Int)))), (9, (.bool (decide ((↑i : Int) ≤ (↑(List.length s) : Int))))), (21, (.bool (decide ((↑i : Int) = (↑(List.length s) : Int) ∨ byteAt s (↑i : Int) = 10))))] (hp [.row 0 9 1 0 none [(.str (List.drop 0 (List.take i s)))]]) [(((-9223372036854775808 : Int) ≤ (↑i : Int) + (1 : Int)) ∧ ((↑i : Int) + (1 : Int) ≤ (9223372036854775807 : Int)))] (by kernel_rfl) (.cons (by omega) .nil) ?_
      refine Wc.whole (b := (base 6 32)) [0, 2, 3, 4, 5, 9, 21] [(0, (.str (s))), (2, .nils), (3, (.sl 0 0 0 1 none)), (4, (.int .i64 ((↑i : Int) + 1))), (5, (.int .i64 ((↑i : Int) + 1))), (9, (.bool (decide ((↑i : Int) ≤ (↑(List.length s) : Int))))), (21, (.bool (decide ((↑i : Int) = (↑(List.length s) : Int) ∨ byteAt s (↑i : Int) = 10))))] (hp [.row 0 9 1 0 none [(.str (List.drop 0 (List.take i s)))]]) [(((-9223372036854775808 : Int) ≤ (↑i : Int) + (1 : Int)) ∧ ((↑i : Int) + (1 : Int) ≤ (9223372036854775807 : Int)))] (by kernel_rfl) (.cons (by omega) .nil) ?_
      have hb : (i : Int) = (s.length : Int) ∨ byteAt s (i : Int) = 10 := by assumption
      refine ⟨(some ([s.take i], i + 1), i + 1), Le.on [0, 2, 3, 4, 5] (by kernel_rfl), by kernel_rfl, ⟨by simp, by simp, by simp only; omega, ?_⟩, by simp only; omega⟩
      simp only
      rcases Nat.lt_or_ge i s.length with hlt | hge
      · have hb' : byteAt s (i : Int) = 10 := hb.resolve_left (by omega)
        refine .inl ⟨by omega, Nat.le_refl _, ?_, by simp⟩
        have e := drop_split (f := 0) hlt (Nat.zero_le _) hb'
        rw [List.drop_zero, List.drop_zero] at e
        conv => lhs; rw [e]
        exact linesOf_app _ _ hno
      · have hall : s.take i = s := List.take_of_length_le hge
        rw [hall] at hno ⊢
        exact .inr ⟨by omega, linesOf_one s hno⟩
    · refine Wc.skip ?_
      refine Wc.whole (b := (base 6 32)) [0, 2, 3, 4, 5, 9, 21] [(0, (.str (s))), (2, .nils), (3, .nils), (4, (.int .i64 0)), (5, (.int .i64 ((↑i : Int) + 1))), (9, (.bool (decide ((↑i : Int) ≤ (↑(List.length s) : Int))))), (21, (.bool (decide ((↑i : Int) = (↑(List.length s) : Int) ∨ byteAt s (↑i : Int) = 10))))] Heap.empty [(((-9223372036854775808 : Int) ≤ (↑i : Int) + (1 : Int)) ∧ ((↑i : Int) + (1 : Int) ≤ (9223372036854775807 : Int)))] (by kernel_rfl) (.cons (by omega) .nil) ?_
      have hb : ¬ ((i : Int) = (s.length : Int) ∨ byteAt s (i : Int) = 10) := by assumption
      have hlt : i < s.length := by omega
      exact ⟨(none, i + 1), Le.on [0, 2, 3, 4, 5] (by kernel_rfl), rfl, ⟨hlt, no_more (f := 0) hlt (Nat.zero_le _) (fun e => hb (.inr e)) hno⟩, by simp only; omega⟩
  · simp only at hI ⊢
    obtain ⟨hd, hdl, hi, hI⟩ := hI
    have hd1 : 0 < d.length := List.length_pos_iff.2 hd
    refine Wc.seq ?_
    refine Wc.seq ?_
    refine Wc.whole (b := (base 6 32)) [0, 2, 3, 4, 5, 9] [(0, (.str (s))), (2, .nils), (3, (.sl 0 (List.length d - 1) 0 (List.length d) none)), (4, (.int .i64 ((↑f : Int)))), (5, (.int .i64 ((↑i : Int)))), (9, (.bool (decide ((↑i : Int) ≤ (↑(List.length s) : Int)))))] (hp [.row (List.length d - 1) 9 1 0 none (List.map V.str d)]) [] (by kernel_rfl) .nil ?_
    refine Wc.condP (p := (↑i : Int) ≤ (↑(List.length s) : Int)) (by kernel_rfl) (by kernel_rfl) (fun c1 => ?_) (fun c1 => ?_)
    · refine Wc.skip ?_
      refine Wc.seq ?_
      refine Wc.block ?_
      refine Wc.seq ?_
      refine Wc.enter ?_
      refine Wl.batch (b := (base 6 32)) 0 5 [0, 2, 3, 4, 5, 9, 16] [(0, (.str (s))), (2, .nils), (3, (.sl 0 (List.length d - 1) 0 (List.length d) none)), (4, (.int .i64 ((↑f : Int)))), (5, (.int .i64 ((↑i : Int)))), (9, (.bool (decide ((↑i : Int) ≤ (↑(List.length s) : Int))))), (16, (.bool (decide ((↑i : Int) = (↑(List.length s) : Int)))))] (hp [.row (List.length d - 1) 9 1 0 none (List.map V.str d)]) [] (by kernel_rfl) rfl .nil ?_
      refine Wl.join (b := (base 6 32)) (p := (↑i : Int) = (↑(List.length s) : Int)) [(0, (.str (s))), (2, .nils), (3, (.sl 0 (List.length d - 1) 0 (List.length d) none)), (4, (.int .i64 ((↑f : Int)))), (5, (.int .i64 ((↑i : Int)))), (9, (.bool (decide ((↑i : Int) ≤ (↑(List.length s) : Int))))), (21, (.bool (decide (((↑i : Int) = (↑(List.length s) : Int)) ∨ (byteAt s (↑i : Int) = 10)))))] (hp [.row (List.length d - 1) 9 1 0 none (List.map V.str d)]) (fun c2 => ?_) (fun c2 => ?_) ?_
      · refine Wl.known [(0, (.str (s))), (2, .nils), (3, (.sl 0 (List.length d - 1) 0 (List.length d) none)), (4, (.int .i64 ((↑f : Int)))), (5, (.int .i64 ((↑i : Int)))), (9, (.bool (decide ((↑i : Int) ≤ (↑(List.length s) : Int))))), (16, (.bool true))] (by have e := decide_eq_true c2; simp only [e] <;> rfl) ?_
        refine Wl.batch (b := (base 6 32)) 5 10 [0, 2, 3, 4, 5, 9, 21] [(0, (.str (s))), (2, .nils), (3, (.sl 0 (List.length d - 1) 0 (List.length d) none)), (4, (.int .i64 ((↑f : Int)))), (5, (.int .i64 ((↑i : Int)))), (9, (.bool (decide ((↑i : Int) ≤ (↑(List.length s) : Int))))), (21, (.bool true))] (hp [.row (List.length d - 1) 9 1 0 none (List.map V.str d)]) [] (by kernel_rfl) rfl .nil ?_
        refine Wl.done 10 rfl ?_
        exact ⟨Le.on' [0, 2, 3, 4, 5, 9, 21] [(0, (.str (s))), (2, .nils), (3, (.sl 0 (List.length d - 1) 0 (List.length d) none)), (4, (.int .i64 ((↑f : Int)))), (5, (.int .i64 ((↑i : Int)))), (9, (.bool (decide ((↑i : Int) ≤ (↑(List.length s) : Int))))), (21, (.bool true))] (by kernel_rfl) (by rw [decOr c2] <;> rfl), by kernel_rfl⟩
      · refine Wl.known [(0, (.str (s))), (2, .nils), (3, (.sl 0 (List.length d - 1) 0 (List.length d) none)), (4, (.int .i64 ((↑f : Int)))), (5, (.int .i64 ((↑i : Int)))), (9, (.bool (decide ((↑i : Int) ≤ (↑(List.length s) : Int))))), (16, (.bool false))] (by have e := decide_eq_false c2; simp only [e] <;> rfl) ?_
        refine Wl.batch (b := (base 6 32)) 5 10 [0, 2, 3, 4, 5, 9, 21] [(0, (.str (s))), (2, .nils), (3, (.sl 0 (List.length d - 1) 0 (List.length d) none)), (4, (.int .i64 ((↑f : Int)))), (5, (.int .i64 ((↑i : Int)))), (9, (.bool (decide ((↑i : Int) ≤ (↑(List.length s) : Int))))), (21, (.bool (decide (byteAt s (↑i : Int) = 10))))] (hp [.row (List.length d - 1) 9 1 0 none (List.map V.str d)]) [(((0 : Int) ≤ (↑i : Int)) ∧ ((↑i : Int) < (↑(List.length s) : Int)))] (by kernel_rfl) rfl (.cons (by omega) .nil) ?_
        refine Wl.done 10 rfl ?_
        exact ⟨Le.on' [0, 2, 3, 4, 5, 9, 21] [(0, (.str (s))), (2, .nils), (3, (.sl 0 (List.length d - 1) 0 (List.length d) none)), (4, (.int .i64 ((↑f : Int)))), (5, (.int .i64 ((↑i : Int)))), (9, (.bool (decide ((↑i : Int) ≤ (↑(List.length s) : Int))))), (21, (.bool (decide (byteAt s (↑i : Int) = 10))))] (by kernel_rfl) (by rw [decOrF c2] <;> rfl), by kernel_rfl⟩
      refine Wc.condP (p := (↑i : Int) = (↑(List.length s) : Int) ∨ byteAt s (↑i : Int) = 10) (by kernel_rfl) (by kernel_rfl) (fun c3 => ?_) (fun c3 => ?_)
      · refine Wc.seq ?_
        refine Wc.whole (b := (base 6 32)) [0, 2, 3, 4, 5, 9, 21] [(0, (.str (s))), (2, .nils), (3, (.sl 0 (Nat.succ (List.length d - 1)) 0 (List.length d + List.length [V.str (List.drop f (List.take i s))]) none)), (4, (.int .i64 ((↑f : Int)))), (5, (.int .i64 ((↑i : Int)))), (9, (.bool (decide ((↑i : Int) ≤ (↑(List.length s) : Int))))), (21, (.bool (decide ((↑i : Int) = (↑(List.length s) : Int) ∨ byteAt s (↑i : Int) = 10))))] (hp [.row (Nat.succ (List.length d - 1)) 9 1 0 none (List.map V.str d ++ [V.str (List.drop f (List.take i s))])]) [(((0 : Int) ≤ (↑f : Int)) ∧ (((↑f : Int) ≤ (↑i : Int)) ∧ ((↑i : Int) ≤ (↑(List.length s) : Int)))), ((List.length d - (1 : Nat) = List.length d - (1 : Nat)) ∧ (([V.str (List.drop f (List.take i s))] ≠ []) ∧ ((List.length d = List.length (List.map V.str d)) ∧ (((0 : Nat) ≤ List.length d) ∧ ((List.length d + List.length [V.str (List.drop f (List.take i s))] ≤ (1099511627776 : Nat)) ∧ ((List.length d + List.length [V.str (List.drop f (List.take i s))]) * (16 : Nat) ≤ (1099511627776 : Nat)))))))] (by kernel_rfl) (.cons (by omega) (.cons (by (simp; omega)) .nil)) ?_
        refine Wc.whole (b := (base 6 32)) [0, 2, 3, 4, 5, 9, 21] [(0, (.str (s))), (2, .nils), (3, (.sl 0 (Nat.succ (List.length d - 1)) 0 (List.length d + List.length [V.str (List.drop f (List.take i s))]) none)), (4, (.int .i64 ((↑i : Int) + 1))), (5, (.int .i64 ((↑i : Int)))), (9, (.bool (decide ((↑i : Int) ≤ (↑(List.length s) : Int))))), (21, (.bool (decide ((↑i : Int) = (↑(List.length s) : Int) ∨ byteAt s (↑i : Int) = 10))))] (hp [.row (Nat.succ (List.length d - 1)) 9 1 0 none (List.map V.str d ++ [V.str (List.drop f (List.take i s))])]) [(((-9223372036854775808 : Int) ≤ (↑i : Int) + (1 : Int)) ∧ ((↑i : Int) + (1 : Int) ≤ (9223372036854775807 : Int)))] (by kernel_rfl) (.cons (by omega) .nil) ?_
        refine Wc.whole (b := (base 6 32)) [0, 2, 3, 4, 5, 9, 21] [(0, (.str (s))), (2, .nils), (3, (.sl 0 (Nat.succ (List.length d - 1)) 0 (List.length d + List.length [V.str (List.drop f (List.take i s))]) none)), (4, (.int .i64 ((↑i : Int) + 1))), (5, (.int .i64 ((↑i : Int) + 1))), (9, (.bool (decide ((↑i : Int) ≤ (↑(List.length s) : Int))))), (21, (.bool (decide ((↑i : Int) = (↑(List.length s) : Int) ∨ byteAt s (↑i : Int) = 10))))] (hp [.row (Nat.succ (List.length d - 1)) 9 1 0 none (List.map V.str d ++ [V.str (List.drop f (List.take i s))])]) [(((-9223372036854775808 : Int) ≤ (↑i : Int) + (1 : Int)) ∧ ((↑i : Int) + (1 : Int) ≤ (9223372036854775807 : Int)))] (by kernel_rfl) (.cons (by omega) .nil) ?_
        have hb : (i : Int) = (s.length : Int) ∨ byteAt s (i : Int) = 10 := by assumption
        obtain ⟨h1, h2, h3, h4⟩ : i ≤ s.length ∧ f ≤ i ∧ linesOf s = d ++ linesOf (s.drop f) ∧ (10 : UInt8) ∉ (s.take i).drop f := hI.resolve_right (by omega)
        have e1 : (d ++ [(s.take i).drop f]).length = d.length + 1 := by simp
        have e2 : (d ++ [(s.take i).drop f]).map V.str = d.map V.str ++ [V.str ((s.take i).drop f)] := by simp
        refine ⟨(some (d ++ [(s.take i).drop f], i + 1), i + 1), ?_, ?_, ⟨by simp, by simp only; omega, by simp only; omega, ?_⟩, by simp only; omega⟩
        · simp only
          rw [e1, show d.length + 1 - 1 = (d.length - 1).succ by omega]
          exact Le.on [0, 2, 3, 4, 5] (by kernel_rfl)
        · simp only
          rw [e1, e2, show d.length + 1 - 1 = (d.length - 1).succ by omega]
        · simp only
          rcases Nat.lt_or_ge i s.length with hlt | hge
          · have hb' : byteAt s (i : Int) = 10 := hb.resolve_left (by omega)
            refine .inl ⟨by omega, Nat.le_refl _, ?_, by simp⟩
            rw [h3, drop_split hlt h2 hb', linesOf_app _ _ h4]; simp
          · have hall : s.take i = s := List.take_of_length_le hge
            rw [hall] at h4 ⊢
            exact .inr ⟨by omega, by rw [h3, linesOf_one _ h4]⟩
      · refine Wc.skip ?_
        refine Wc.whole (b := (base 6 32)) [0, 2, 3, 4, 5, 9, 21] [(0, (.str (s))), (2, .nils), (3, (.sl 0 (List.length d - 1) 0 (List.length d) none)), (4, (.int .i64 ((↑f : Int)))), (5, (.int .i64 ((↑i : Int) + 1))), (9, (.bool (decide ((↑i : Int) ≤ (↑(List.length s) : Int))))), (21, (.bool (decide ((↑i : Int) = (↑(List.length s) : Int) ∨ byteAt s (↑i : Int) = 10))))] (hp [.row (List.length d - 1) 9 1 0 none (List.map V.str d)]) [(((-9223372036854775808 : Int) ≤ (↑i : Int) + (1 : Int)) ∧ ((↑i : Int) + (1 : Int) ≤ (9223372036854775807 : Int)))] (by kernel_rfl) (.cons (by omega) .nil) ?_
        have hb : ¬ ((i : Int) = (s.length : Int) ∨ byteAt s (i : Int) = 10) := by assumption
        have hlt : i < s.length := by omega
        obtain ⟨h1, h2, h3, h4⟩ : i ≤ s.length ∧ f ≤ i ∧ linesOf s = d ++ linesOf (s.drop f) ∧ (10 : UInt8) ∉ (s.take i).drop f := hI.resolve_right (by omega)
        exact ⟨(some (d, f), i + 1), Le.on [0, 2, 3, 4, 5] (by kernel_rfl), rfl, ⟨hd, by simp only; omega, by simp only; omega, .inl ⟨hlt, Nat.le_succ_of_le h2, h3, no_more hlt h2 (fun e => hb (.inr e)) h4⟩⟩, by simp only; omega⟩
    · refine Wc.exit ?_
      refine blockX.here ?_
      refine Wc.seq ?_
      refine Wc.whole (b := (base 6 32)) [0, 2, 3, 4, 5, 9] [(0, (.str (s))), (2, (.sl 0 (List.length d - 1) 0 (List.length d) none)), (3, (.sl 0 (List.length d - 1) 0 (List.length d) none)), (4, (.int .i64 ((↑f : Int)))), (5, (.int .i64 ((↑i : Int)))), (9, (.bool (decide ((↑i : Int) ≤ (↑(List.length s) : Int)))))] (hp [.row (List.length d - 1) 9 1 0 none (List.map V.str d)]) [] (by kernel_rfl) .nil ?_
      refine Wc.ret ?_
      refine retX.mk (.sl 0 (List.length d - 1) 0 (List.length d) none) ⟨rfl, rfl⟩ (by kernel_rfl) ?_
      obtain ⟨h1, h2⟩ : i = s.length + 1 ∧ linesOf s = d := hI.resolve_left (by omega)
      rw [h2]
      exact retAll_row (f := V.str) (fun _ _ _ => rfl) (l := d) (by kernel_rfl) rfl rfl

end Go.AM
