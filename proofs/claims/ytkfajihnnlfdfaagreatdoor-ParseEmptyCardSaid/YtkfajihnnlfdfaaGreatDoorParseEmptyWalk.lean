/-
  WHAT FUNCTIONS COME TO, walked over states of which a part is known. No condition but what each says of its arguments.
-/
import Derived.Test.YtkfajihnnlfdfaaGreatDoorPeB
namespace Go.AM
open Go.Proofs
set_option maxRecDepth 100000
set_option maxHeartbeats 4000000

theorem txt_len (l : List UInt8) : (txt l).length ≤ 4 * l.length := (txt_ok l).2.2
theorem same_a : Cp Tryz.prog EU 7 [.agg [.int .i64 0, .str [], .nils], .agg [.int .i64 0, .str [], .nils]] (.bool true) := fun hF => memo_pure (run_snd hF.names hF.prim 1000000) (by kernel_rfl)
def w4 : List (List UInt8) := [[32], [10], [35, 32, 97, 10], [9]]
theorem piece_w4 {k : Nat} (h : k < 4) : piece k = w4.getD k [] := by
  match k, h with
  | 0, _ => rfl
  | 1, _ => rfl
  | 2, _ => rfl
  | 3, _ => rfl
theorem ldcn (h : Heap) (l : List UInt8) (k : Nat) (h1 : k < l.length) : AM.load Tryz.prog h 5 (.gptr 1 (l.map bV) (k * 1)) = some (.int .u8 ((l.getD k 0).toNat : Int)) :=
  load_gat (f := bV) (fun _ => rfl) 0 (by kernel_rfl) (by kernel_rfl) rfl h1
theorem ldwn (h : Heap) (j : Nat) (h1 : j < 4) : AM.load Tryz.prog h 9 (.gptr 1 [(.str [32]), (.str [10]), (.str [35, 32, 97, 10]), (.str [9])] (j * 1)) = some (.str (w4.getD j [])) :=
  load_gat (f := V.str) (l := w4) (fun _ => rfl) [] (by kernel_rfl) (by kernel_rfl) rfl h1
theorem pe_l (l : List UInt8) : Cx Tryz.prog EU 3 [.gsl 1 (l.map bV) none] Heap.empty (fun v _ => v = .bool true) := by
  refine Ev.body (fn := Tryz.f3) Tryz.func3 rfl (by kernel_rfl) ?_
  refine Wc.seq ?_
  refine Wc.whole (b := (base 3 66)) [0, 2] [(0, (.gsl 1 (List.map bV l) none)), (2, (.bool false))] Heap.empty [] (by kernel_rfl) .nil ?_
  refine Wc.seq ?_
  refine Wc.whole (b := (base 3 66)) [0, 2, 3] [(0, (.gsl 1 (List.map bV l) none)), (2, (.bool false)), (3, (.str []))] Heap.empty [] (by kernel_rfl) .nil ?_
  refine Wc.seq ?_
  refine Wc.seq ?_
  refine Wc.whole (b := (base 3 66)) [0, 2, 3, 4] [(0, (.gsl 1 (List.map bV l) none)), (2, (.bool false)), (3, (.str [])), (4, (.int .i64 0))] Heap.empty [] (by kernel_rfl) .nil ?_
  refine Wc.block ?_
  refine Wc.loop (α := Nat) (fun n => (base 3 66).on [(0, .gsl 1 (List.map bV l) none), (2, .bool false), (3, .str (txt (l.take n))), (4, .int .i64 (n : Int))]) (fun _ => Heap.empty) (fun n => n ≤ l.length ∧ n ≤ 20) (fun n => l.length - n) 0 (Le.on [0, 2, 3, 4] (by kernel_rfl)) rfl ⟨Nat.zero_le _, Nat.zero_le _⟩ ?_
  rintro n ⟨hn, hm⟩
  have hlm : (l.map bV).length = l.length := List.length_map _
  have htl := txt_len (l.take n)
  have htk : (l.take n).length ≤ 20 := by rw [List.length_take]; omega
  have hb : (l.getD n 0).toNat < 256 := UInt8.toNat_lt _
  have hb4 : (l.getD n 0).toNat % 4 < 4 := Nat.mod_lt _ (by decide)
  have hw : (w4.getD ((l.getD n 0).toNat % 4) []).length ≤ 4 := by
    have h4 : ∀ k, k < 4 → (w4.getD k []).length ≤ 4 := by decide
    exact h4 _ hb4
  refine Wc.seq ?_
  refine Wc.seq ?_
  refine Wc.enter ?_
  refine Wl.batch (b := (base 3 66)) 0 5 [0, 2, 3, 4, 15] [(0, (.gsl 1 (List.map bV l) none)), (2, (.bool false)), (3, (.str (txt (List.take n l)))), (4, (.int .i64 ((↑n : Int)))), (15, (.bool (decide ((↑n : Int) < (↑(List.length (List.map bV l)) : Int)))))] Heap.empty [] (by kernel_rfl) rfl .nil ?_
  refine Wl.join (b := (base 3 66)) (p := (↑n : Int) < (↑(List.length (List.map bV l)) : Int)) [(0, (.gsl 1 (List.map bV l) none)), (2, (.bool false)), (3, (.str (txt (List.take n l)))), (4, (.int .i64 ((↑n : Int)))), (18, (.bool (decide (((↑n : Int) < (↑(List.length (List.map bV l)) : Int)) ∧ ((↑n : Int) < 20)))))] Heap.empty (fun c1 => ?_) (fun c1 => ?_) ?_
  · refine Wl.known [(0, (.gsl 1 (List.map bV l) none)), (2, (.bool false)), (3, (.str (txt (List.take n l)))), (4, (.int .i64 ((↑n : Int)))), (15, (.bool true))] (by have e := decide_eq_true c1; simp only [e] <;> rfl) ?_
    refine Wl.batch (b := (base 3 66)) 5 8 [0, 2, 3, 4, 18] [(0, (.gsl 1 (List.map bV l) none)), (2, (.bool false)), (3, (.str (txt (List.take n l)))), (4, (.int .i64 ((↑n : Int)))), (18, (.bool (decide ((↑n : Int) < 20))))] Heap.empty [] (by kernel_rfl) rfl .nil ?_
    refine Wl.done 8 rfl ?_
    exact ⟨Le.on' [0, 2, 3, 4, 18] [(0, (.gsl 1 (List.map bV l) none)), (2, (.bool false)), (3, (.str (txt (List.take n l)))), (4, (.int .i64 ((↑n : Int)))), (18, (.bool (decide ((↑n : Int) < 20))))] (by kernel_rfl) (by rw [decAnd c1] <;> rfl), by kernel_rfl⟩
  · refine Wl.known [(0, (.gsl 1 (List.map bV l) none)), (2, (.bool false)), (3, (.str (txt (List.take n l)))), (4, (.int .i64 ((↑n : Int)))), (15, (.bool false))] (by have e := decide_eq_false c1; simp only [e] <;> rfl) ?_
    refine Wl.batch (b := (base 3 66)) 5 8 [0, 2, 3, 4, 18] [(0, (.gsl 1 (List.map bV l) none)), (2, (.bool false)), (3, (.str (txt (List.take n l)))), (4, (.int .i64 ((↑n : Int)))), (18, (.bool false))] Heap.empty [] (by kernel_rfl) rfl .nil ?_
    refine Wl.done 8 rfl ?_
    exact ⟨Le.on' [0, 2, 3, 4, 18] [(0, (.gsl 1 (List.map bV l) none)), (2, (.bool false)), (3, (.str (txt (List.take n l)))), (4, (.int .i64 ((↑n : Int)))), (18, (.bool false))] (by kernel_rfl) (by rw [decAndF c1] <;> rfl), by kernel_rfl⟩
  refine Wc.condP (p := (↑n : Int) < (↑(List.length (List.map bV l)) : Int) ∧ (↑n : Int) < 20) (by kernel_rfl) (by kernel_rfl) (fun c2 => ?_) (fun c2 => ?_)
  · refine Wc.skip ?_
    refine Wc.seq ?_
    refine Wc.block ?_
    refine Wc.enter ?_
    refine Wl.batch (b := (base 3 66)) 0 5 [0, 2, 3, 4, 18, 21, 22, 25] [(0, (.gsl 1 (List.map bV l) none)), (2, (.bool false)), (3, (.str (txt (List.take n l)))), (4, (.int .i64 ((↑n : Int)))), (18, (.bool (decide ((↑n : Int) < (↑(List.length (List.map bV l)) : Int) ∧ (↑n : Int) < 20)))), (21, (.str (txt (List.take n l)))), (22, (.gsl 1 [(.str [32]), (.str [10]), (.str [35, 32, 97, 10]), (.str [9])] (some 4))), (25, (.gptr 1 (List.map bV l) (n * 1)))] Heap.empty [(((0 : Int) ≤ (↑n : Int)) ∧ ((↑n : Int) < (↑(List.length (List.map bV l)) : Int)))] (by kernel_rfl) rfl (.cons (by omega) .nil) ?_
    refine Wl.load (b := (base 3 66)) (t := 5) (a := (.gptr 1 (List.map bV l) (n * 1))) (d := (some 26)) 5 (.int .u8 ((↑(UInt8.toNat (List.getD l n 0)) : Int))) [0, 2, 3, 4, 18, 21, 22, 26] [(0, (.gsl 1 (List.map bV l) none)), (2, (.bool false)), (3, (.str (txt (List.take n l)))), (4, (.int .i64 ((↑n : Int)))), (18, (.bool (decide ((↑n : Int) < (↑(List.length (List.map bV l)) : Int) ∧ (↑n : Int) < 20)))), (21, (.str (txt (List.take n l)))), (22, (.gsl 1 [(.str [32]), (.str [10]), (.str [35, 32, 97, 10]), (.str [9])] (some 4))), (26, (.int .u8 ((↑(UInt8.toNat (List.getD l n 0)) : Int))))] (by kernel_rfl) (@Go.AM.ldcn (Heap.empty) (l) (n) (by omega)) (by kernel_rfl) ?_
    refine Wl.batch (b := (base 3 66)) 6 8 [0, 2, 3, 4, 18, 21, 28] [(0, (.gsl 1 (List.map bV l) none)), (2, (.bool false)), (3, (.str (txt (List.take n l)))), (4, (.int .i64 ((↑n : Int)))), (18, (.bool (decide ((↑n : Int) < (↑(List.length (List.map bV l)) : Int) ∧ (↑n : Int) < 20)))), (21, (.str (txt (List.take n l)))), (28, (.gptr 1 [(.str [32]), (.str [10]), (.str [35, 32, 97, 10]), (.str [9])] (Int.toNat ((↑(UInt8.toNat (List.getD l n 0)) : Int) % 4) * 1)))] Heap.empty [(((0 : Int) ≤ (↑(UInt8.toNat (List.getD l n (0 : UInt8))) : Int)) ∧ ((0 : Int) < (4 : Int))), (((0 : Int) ≤ (↑(UInt8.toNat (List.getD l n (0 : UInt8))) : Int) % (4 : Int)) ∧ ((↑(UInt8.toNat (List.getD l n (0 : UInt8))) : Int) % (4 : Int) < (4 : Int)))] (by kernel_rfl) rfl (.cons (by omega) (.cons (by omega) .nil)) ?_
    refine Wl.load (b := (base 3 66)) (t := 9) (a := (.gptr 1 [(.str [32]), (.str [10]), (.str [35, 32, 97, 10]), (.str [9])] (Int.toNat ((↑(UInt8.toNat (List.getD l n 0)) : Int) % 4) * 1))) (d := (some 29)) 8 (.str (List.getD w4 (Int.toNat ((↑(UInt8.toNat (List.getD l n 0)) : Int) % 4)) [])) [0, 2, 3, 4, 18, 21, 29] [(0, (.gsl 1 (List.map bV l) none)), (2, (.bool false)), (3, (.str (txt (List.take n l)))), (4, (.int .i64 ((↑n : Int)))), (18, (.bool (decide ((↑n : Int) < (↑(List.length (List.map bV l)) : Int) ∧ (↑n : Int) < 20)))), (21, (.str (txt (List.take n l)))), (29, (.str (List.getD w4 (Int.toNat ((↑(UInt8.toNat (List.getD l n 0)) : Int) % 4)) [])))] (by kernel_rfl) (@Go.AM.ldwn (Heap.empty) (Int.toNat ((↑(UInt8.toNat (List.getD l n 0)) : Int) % 4)) (by omega)) (by kernel_rfl) ?_
    refine Wl.batch (b := (base 3 66)) 9 11 [0, 2, 3, 4, 18] [(0, (.gsl 1 (List.map bV l) none)), (2, (.bool false)), (3, (.str (txt (List.take n l) ++ List.getD w4 (Int.toNat ((↑(UInt8.toNat (List.getD l n 0)) : Int) % 4)) []))), (4, (.int .i64 ((↑n : Int)))), (18, (.bool (decide ((↑n : Int) < (↑(List.length (List.map bV l)) : Int) ∧ (↑n : Int) < 20))))] Heap.empty [(List.length (txt (List.take n l)) + List.length (List.getD w4 (Int.toNat ((↑(UInt8.toNat (List.getD l n (0 : UInt8))) : Int) % (4 : Int))) []) ≤ (1099511627776 : Nat))] (by kernel_rfl) rfl (.cons (by have hw2 : (w4.getD (Int.toNat ((↑(UInt8.toNat (List.getD l n 0)) : Int) % 4)) []).length ≤ 4 := hw; rw [List.length_take] at htl; omega) .nil) ?_
    refine Wl.done 11 rfl ?_
    refine Wc.whole (b := (base 3 66)) [0, 2, 3, 4, 18] [(0, (.gsl 1 (List.map bV l) none)), (2, (.bool false)), (3, (.str (txt (List.take n l) ++ List.getD w4 (Int.toNat ((↑(UInt8.toNat (List.getD l n 0)) : Int) % 4)) []))), (4, (.int .i64 ((↑n : Int) + 1))), (18, (.bool (decide ((↑n : Int) < (↑(List.length (List.map bV l)) : Int) ∧ (↑n : Int) < 20))))] Heap.empty [(((-9223372036854775808 : Int) ≤ (↑n : Int) + (1 : Int)) ∧ ((↑n : Int) + (1 : Int) ≤ (9223372036854775807 : Int)))] (by kernel_rfl) (.cons (by omega) .nil) ?_
    have hlt : n < l.length := by omega
    have hx : l[n]? = some (l.getD n 0) := by rw [List.getD_eq_getElem?_getD, List.getElem?_eq_getElem hlt]; rfl
    refine ⟨n + 1, Le.on' [0, 2, 3, 4] [(0, .gsl 1 (List.map bV l) none), (2, .bool false), (3, .str (txt (List.take n l) ++ List.getD w4 (Int.toNat ((↑(UInt8.toNat (List.getD l n 0)) : Int) % 4)) [])), (4, .int .i64 ((n : Int) + 1))] (by kernel_rfl) ?_, rfl, ⟨by omega, by omega⟩, by omega⟩
    rw [txt_step hx, piece_w4 hb4]
    rfl
  · refine Wc.exit ?_
    refine blockX.here ?_
    refine Wc.seq ?_
    refine Wc.enter ?_
    refine Wl.batch (b := (base 3 66)) 0 1 [0, 2, 3, 4, 18, 32] [(0, (.gsl 1 (List.map bV l) none)), (2, (.bool false)), (3, (.str (txt (List.take n l)))), (4, (.int .i64 ((↑n : Int)))), (18, (.bool (decide ((↑n : Int) < (↑(List.length (List.map bV l)) : Int) ∧ (↑n : Int) < 20)))), (32, (.str (txt (List.take n l))))] Heap.empty [] (by kernel_rfl) rfl .nil ?_
    refine Wl.callP (b := (base 3 66)) (h1 := Heap.empty) (h2 := Heap.empty) (v := (.tup [(.agg [(.int .i64 0), (.str []), .nils]), (.int .u16 22), (.int .i64 ((↑(List.length (txt (List.take n l))) : Int)))])) (d := (some 33)) 1 [0, 2, 3, 4, 18, 33] [(0, (.gsl 1 (List.map bV l) none)), (2, (.bool false)), (3, (.str (txt (List.take n l)))), (4, (.int .i64 ((↑n : Int)))), (18, (.bool (decide ((↑n : Int) < (↑(List.length (List.map bV l)) : Int) ∧ (↑n : Int) < 20)))), (33, (.tup [(.agg [(.int .i64 0), (.str []), .nils]), (.int .u16 22), (.int .i64 ((↑(List.length (txt (List.take n l))) : Int)))]))] (@Go.AM.src_t (List.take n l) htk) (by kernel_rfl) (by kernel_rfl) (by kernel_rfl) ?_
    refine Wl.batch (b := (base 3 66)) 2 10 [0, 2, 3, 4, 5, 6, 7, 18] [(0, (.gsl 1 (List.map bV l) none)), (2, (.bool false)), (3, (.str (txt (List.take n l)))), (4, (.int .i64 ((↑n : Int)))), (5, (.ptr 0 0 0)), (6, (.int .u16 22)), (7, (.int .i64 ((↑(List.length (txt (List.take n l))) : Int)))), (18, (.bool (decide ((↑n : Int) < (↑(List.length (List.map bV l)) : Int) ∧ (↑n : Int) < 20))))] (hp [.row 0 26 3 0 (some 1) [(.agg [(.int .i64 0), (.str []), .nils])]]) [] (by kernel_rfl) rfl .nil ?_
    refine Wl.done 10 rfl ?_
    refine Wc.seq ?_
    refine Wc.enter ?_
    refine Wl.callP (b := (base 3 66)) (h1 := (hp [.row 0 26 3 0 (some 1) [(.agg [(.int .i64 0), (.str []), .nils])]])) (h2 := (hp [.row 0 26 3 0 (some 1) [(.agg [(.int .i64 0), (.str []), .nils])]])) (v := (.tup [(.agg [(.int .i64 0), (.str []), .nils]), (.int .u16 22), (.int .i64 0)])) (d := (some 38)) 0 [0, 2, 3, 4, 5, 6, 7, 18, 38] [(0, (.gsl 1 (List.map bV l) none)), (2, (.bool false)), (3, (.str (txt (List.take n l)))), (4, (.int .i64 ((↑n : Int)))), (5, (.ptr 0 0 0)), (6, (.int .u16 22)), (7, (.int .i64 ((↑(List.length (txt (List.take n l))) : Int)))), (18, (.bool (decide ((↑n : Int) < (↑(List.length (List.map bV l)) : Int) ∧ (↑n : Int) < 20)))), (38, (.tup [(.agg [(.int .i64 0), (.str []), .nils]), (.int .u16 22), (.int .i64 0)]))] (@Go.AM.prog_a) (by kernel_rfl) (by kernel_rfl) (by kernel_rfl) ?_
    refine Wl.batch (b := (base 3 66)) 1 9 [0, 2, 3, 4, 5, 6, 7, 9, 10, 18] [(0, (.gsl 1 (List.map bV l) none)), (2, (.bool false)), (3, (.str (txt (List.take n l)))), (4, (.int .i64 ((↑n : Int)))), (5, (.ptr 0 0 0)), (6, (.int .u16 22)), (7, (.int .i64 ((↑(List.length (txt (List.take n l))) : Int)))), (9, (.int .u16 22)), (10, (.int .i64 0)), (18, (.bool (decide ((↑n : Int) < (↑(List.length (List.map bV l)) : Int) ∧ (↑n : Int) < 20))))] (hp [.row 0 26 3 0 (some 1) [(.agg [(.int .i64 0), (.str []), .nils])], .row 0 26 3 0 (some 1) [(.agg [(.int .i64 0), (.str []), .nils])]]) [] (by kernel_rfl) rfl .nil ?_
    refine Wl.done 9 rfl ?_
    refine Wc.seq ?_
    refine Wc.enter ?_
    refine Wl.batch (b := (base 3 66)) 0 12 [0, 2, 3, 4, 5, 6, 7, 9, 10, 18, 53] [(0, (.gsl 1 (List.map bV l) none)), (2, (.bool false)), (3, (.str (txt (List.take n l)))), (4, (.int .i64 ((↑n : Int)))), (5, (.ptr 0 0 0)), (6, (.int .u16 22)), (7, (.int .i64 ((↑(List.length (txt (List.take n l))) : Int)))), (9, (.int .u16 22)), (10, (.int .i64 0)), (18, (.bool (decide ((↑n : Int) < (↑(List.length (List.map bV l)) : Int) ∧ (↑n : Int) < 20)))), (53, (.bool (decide ((↑(List.length (txt (List.take n l))) : Int) = (↑(List.length (txt (List.take n l))) : Int)))))] (hp [.row 0 26 3 0 (some 1) [(.agg [(.int .i64 0), (.str []), .nils])], .row 0 26 3 0 (some 1) [(.agg [(.int .i64 0), (.str []), .nils])]]) [] (by kernel_rfl) rfl .nil ?_
    refine Wl.known [(0, (.gsl 1 (List.map bV l) none)), (2, (.bool false)), (3, (.str (txt (List.take n l)))), (4, (.int .i64 ((↑n : Int)))), (5, (.ptr 0 0 0)), (6, (.int .u16 22)), (7, (.int .i64 ((↑(List.length (txt (List.take n l))) : Int)))), (9, (.int .u16 22)), (10, (.int .i64 0)), (18, (.bool (decide ((↑n : Int) < (↑(List.length (List.map bV l)) : Int) ∧ (↑n : Int) < 20)))), (53, (.bool true))] (by have e := decide_eq_true (show (↑(List.length (txt (List.take n l))) : Int) = (↑(List.length (txt (List.take n l))) : Int) from (by omega)); simp only [e] <;> rfl) ?_
    refine Wl.batch (b := (base 3 66)) 12 14 [0, 2, 3, 4, 5, 6, 7, 9, 10, 18, 53, 54, 55] [(0, (.gsl 1 (List.map bV l) none)), (2, (.bool false)), (3, (.str (txt (List.take n l)))), (4, (.int .i64 ((↑n : Int)))), (5, (.ptr 0 0 0)), (6, (.int .u16 22)), (7, (.int .i64 ((↑(List.length (txt (List.take n l))) : Int)))), (9, (.int .u16 22)), (10, (.int .i64 0)), (18, (.bool (decide ((↑n : Int) < (↑(List.length (List.map bV l)) : Int) ∧ (↑n : Int) < 20)))), (53, (.bool true)), (54, (.agg [(.int .i64 0), (.str []), .nils])), (55, (.agg [(.int .i64 0), (.str []), .nils]))] (hp [.row 0 26 3 0 (some 1) [(.agg [(.int .i64 0), (.str []), .nils])], .row 0 26 3 0 (some 1) [(.agg [(.int .i64 0), (.str []), .nils])]]) [] (by kernel_rfl) rfl .nil ?_
    refine Wl.callP (b := (base 3 66)) (h1 := (hp [.row 0 26 3 0 (some 1) [(.agg [(.int .i64 0), (.str []), .nils])], .row 0 26 3 0 (some 1) [(.agg [(.int .i64 0), (.str []), .nils])]])) (h2 := (hp [.row 0 26 3 0 (some 1) [(.agg [(.int .i64 0), (.str []), .nils])], .row 0 26 3 0 (some 1) [(.agg [(.int .i64 0), (.str []), .nils])]])) (v := (.bool true)) (d := (some 56)) 14 [0, 2, 3, 4, 5, 6, 7, 9, 10, 18, 53, 56] [(0, (.gsl 1 (List.map bV l) none)), (2, (.bool false)), (3, (.str (txt (List.take n l)))), (4, (.int .i64 ((↑n : Int)))), (5, (.ptr 0 0 0)), (6, (.int .u16 22)), (7, (.int .i64 ((↑(List.length (txt (List.take n l))) : Int)))), (9, (.int .u16 22)), (10, (.int .i64 0)), (18, (.bool (decide ((↑n : Int) < (↑(List.length (List.map bV l)) : Int) ∧ (↑n : Int) < 20)))), (53, (.bool true)), (56, (.bool true))] (@Go.AM.same_a) (by kernel_rfl) (by kernel_rfl) (by kernel_rfl) ?_
    refine Wl.batch (b := (base 3 66)) 15 25 [0, 2, 3, 4, 5, 6, 7, 9, 10, 18] [(0, (.gsl 1 (List.map bV l) none)), (2, (.bool true)), (3, (.str (txt (List.take n l)))), (4, (.int .i64 ((↑n : Int)))), (5, (.ptr 0 0 0)), (6, (.int .u16 22)), (7, (.int .i64 ((↑(List.length (txt (List.take n l))) : Int)))), (9, (.int .u16 22)), (10, (.int .i64 0)), (18, (.bool (decide ((↑n : Int) < (↑(List.length (List.map bV l)) : Int) ∧ (↑n : Int) < 20))))] (hp [.row 0 26 3 0 (some 1) [(.agg [(.int .i64 0), (.str []), .nils])], .row 0 26 3 0 (some 1) [(.agg [(.int .i64 0), (.str []), .nils])]]) [] (by kernel_rfl) rfl .nil ?_
    refine Wl.done 25 rfl ?_
    refine Wc.ret ?_
    refine retX.mk (.bool true) ⟨rfl, rfl⟩ (by kernel_rfl) ?_
    kernel_rfl
theorem src_n : Cp Tryz.prog EU 4 [.str []] (.tup [.agg [.int .i64 0, .str [], .nils], .int .u16 22, .int .i64 0]) := src_t [] (by decide)
theorem pe_n : Cx Tryz.prog EU 3 [.nils] Heap.empty (fun v _ => v = .bool true) := by
  refine Ev.body (fn := Tryz.f3) Tryz.func3 rfl (by kernel_rfl) ?_
  refine Wc.seq ?_
  refine Wc.whole (b := (base 3 66)) [0, 2] [(0, .nils), (2, (.bool false))] Heap.empty [] (by kernel_rfl) .nil ?_
  refine Wc.seq ?_
  refine Wc.whole (b := (base 3 66)) [0, 2, 3] [(0, .nils), (2, (.bool false)), (3, (.str []))] Heap.empty [] (by kernel_rfl) .nil ?_
  refine Wc.seq ?_
  refine Wc.seq ?_
  refine Wc.whole (b := (base 3 66)) [0, 2, 3, 4] [(0, .nils), (2, (.bool false)), (3, (.str [])), (4, (.int .i64 0))] Heap.empty [] (by kernel_rfl) .nil ?_
  refine Wc.block ?_
  refine Wc.unroll ?_
  refine Wc.seq ?_
  refine Wc.seq ?_
  refine Wc.whole (b := (base 3 66)) [0, 2, 3, 4, 18] [(0, .nils), (2, (.bool false)), (3, (.str [])), (4, (.int .i64 0)), (18, (.bool false))] Heap.empty [] (by kernel_rfl) .nil ?_
  refine Wc.condF (by kernel_rfl) (by kernel_rfl) ?_
  refine Wc.exit ?_
  refine blockX.here ?_
  refine Wc.seq ?_
  refine Wc.enter ?_
  refine Wl.batch (b := (base 3 66)) 0 1 [0, 2, 3, 4, 18, 32] [(0, .nils), (2, (.bool false)), (3, (.str [])), (4, (.int .i64 0)), (18, (.bool false)), (32, (.str []))] Heap.empty [] (by kernel_rfl) rfl .nil ?_
  refine Wl.callP (b := (base 3 66)) (h1 := Heap.empty) (h2 := Heap.empty) (v := (.tup [(.agg [(.int .i64 0), (.str []), .nils]), (.int .u16 22), (.int .i64 0)])) (d := (some 33)) 1 [0, 2, 3, 4, 18, 33] [(0, .nils), (2, (.bool false)), (3, (.str [])), (4, (.int .i64 0)), (18, (.bool false)), (33, (.tup [(.agg [(.int .i64 0), (.str []), .nils]), (.int .u16 22), (.int .i64 0)]))] (@Go.AM.src_n) (by kernel_rfl) (by kernel_rfl) (by kernel_rfl) ?_
  refine Wl.batch (b := (base 3 66)) 2 10 [0, 2, 3, 4, 5, 6, 7, 18] [(0, .nils), (2, (.bool false)), (3, (.str [])), (4, (.int .i64 0)), (5, (.ptr 0 0 0)), (6, (.int .u16 22)), (7, (.int .i64 0)), (18, (.bool false))] (hp [.row 0 26 3 0 (some 1) [(.agg [(.int .i64 0), (.str []), .nils])]]) [] (by kernel_rfl) rfl .nil ?_
  refine Wl.done 10 rfl ?_
  refine Wc.seq ?_
  refine Wc.enter ?_
  refine Wl.callP (b := (base 3 66)) (h1 := (hp [.row 0 26 3 0 (some 1) [(.agg [(.int .i64 0), (.str []), .nils])]])) (h2 := (hp [.row 0 26 3 0 (some 1) [(.agg [(.int .i64 0), (.str []), .nils])]])) (v := (.tup [(.agg [(.int .i64 0), (.str []), .nils]), (.int .u16 22), (.int .i64 0)])) (d := (some 38)) 0 [0, 2, 3, 4, 5, 6, 7, 18, 38] [(0, .nils), (2, (.bool false)), (3, (.str [])), (4, (.int .i64 0)), (5, (.ptr 0 0 0)), (6, (.int .u16 22)), (7, (.int .i64 0)), (18, (.bool false)), (38, (.tup [(.agg [(.int .i64 0), (.str []), .nils]), (.int .u16 22), (.int .i64 0)]))] (@Go.AM.prog_a) (by kernel_rfl) (by kernel_rfl) (by kernel_rfl) ?_
  refine Wl.batch (b := (base 3 66)) 1 9 [0, 2, 3, 4, 5, 6, 7, 9, 10, 18] [(0, .nils), (2, (.bool false)), (3, (.str [])), (4, (.int .i64 0)), (5, (.ptr 0 0 0)), (6, (.int .u16 22)), (7, (.int .i64 0)), (9, (.int .u16 22)), (10, (.int .i64 0)), (18, (.bool false))] (hp [.row 0 26 3 0 (some 1) [(.agg [(.int .i64 0), (.str []), .nils])], .row 0 26 3 0 (some 1) [(.agg [(.int .i64 0), (.str []), .nils])]]) [] (by kernel_rfl) rfl .nil ?_
  refine Wl.done 9 rfl ?_
  refine Wc.seq ?_
  refine Wc.enter ?_
  refine Wl.batch (b := (base 3 66)) 0 14 [0, 2, 3, 4, 5, 6, 7, 9, 10, 18, 53, 54, 55] [(0, .nils), (2, (.bool false)), (3, (.str [])), (4, (.int .i64 0)), (5, (.ptr 0 0 0)), (6, (.int .u16 22)), (7, (.int .i64 0)), (9, (.int .u16 22)), (10, (.int .i64 0)), (18, (.bool false)), (53, (.bool true)), (54, (.agg [(.int .i64 0), (.str []), .nils])), (55, (.agg [(.int .i64 0), (.str []), .nils]))] (hp [.row 0 26 3 0 (some 1) [(.agg [(.int .i64 0), (.str []), .nils])], .row 0 26 3 0 (some 1) [(.agg [(.int .i64 0), (.str []), .nils])]]) [] (by kernel_rfl) rfl .nil ?_
  refine Wl.callP (b := (base 3 66)) (h1 := (hp [.row 0 26 3 0 (some 1) [(.agg [(.int .i64 0), (.str []), .nils])], .row 0 26 3 0 (some 1) [(.agg [(.int .i64 0), (.str []), .nils])]])) (h2 := (hp [.row 0 26 3 0 (some 1) [(.agg [(.int .i64 0), (.str []), .nils])], .row 0 26 3 0 (some 1) [(.agg [(.int .i64 0), (.str []), .nils])]])) (v := (.bool true)) (d := (some 56)) 14 [0, 2, 3, 4, 5, 6, 7, 9, 10, 18, 53, 56] [(0, .nils), (2, (.bool false)), (3, (.str [])), (4, (.int .i64 0)), (5, (.ptr 0 0 0)), (6, (.int .u16 22)), (7, (.int .i64 0)), (9, (.int .u16 22)), (10, (.int .i64 0)), (18, (.bool false)), (53, (.bool true)), (56, (.bool true))] (@Go.AM.same_a) (by kernel_rfl) (by kernel_rfl) (by kernel_rfl) ?_
  refine Wl.batch (b := (base 3 66)) 15 25 [0, 2, 3, 4, 5, 6, 7, 9, 10, 18] [(0, .nils), (2, (.bool true)), (3, (.str [])), (4, (.int .i64 0)), (5, (.ptr 0 0 0)), (6, (.int .u16 22)), (7, (.int .i64 0)), (9, (.int .u16 22)), (10, (.int .i64 0)), (18, (.bool false))] (hp [.row 0 26 3 0 (some 1) [(.agg [(.int .i64 0), (.str []), .nils])], .row 0 26 3 0 (some 1) [(.agg [(.int .i64 0), (.str []), .nils])]]) [] (by kernel_rfl) rfl .nil ?_
  refine Wl.done 25 rfl ?_
  refine Wc.ret ?_
  refine retX.mk (.bool true) ⟨rfl, rfl⟩ (by kernel_rfl) ?_
  kernel_rfl
theorem parseEmpty_walk (x : V) (l : List UInt8) (hx : Bs x l) : Cx Tryz.prog EU 3 [x] Heap.empty (fun v _ => v = .bool true) := by
  rcases hx with ⟨rfl, rfl⟩ | rfl
  · exact pe_n
  · exact pe_l l

end Go.AM
