/-
  WHAT FUNCTIONS COME TO, walked over states of which a part is known. No condition but what each says of its arguments.
-/
import Derived.Test.YtpjpgabdemdieaaGreatDoorAmEnvU
namespace Go.AM
open Go.Proofs
set_option maxRecDepth 100000
set_option maxHeartbeats 4000000

theorem take_app_rep {a : List UInt8} {c : UInt8} {j : Nat} : (a ++ List.replicate (j + 1) c).take ((a ++ List.replicate (j + 1) c).length - 1) = a ++ List.replicate j c := by
  rw [List.replicate_succ', ← List.append_assoc, List.length_append, List.length_singleton, Nat.add_sub_cancel, List.take_left']
  rfl
theorem last_ne {a : List UInt8} {c : UInt8} (ha : a.getLast? ≠ some c) (h0 : 0 < (a.length : Int)) : byteAt a ((a.length : Int) - 1) ≠ (c.toNat : Int) := by
  intro h
  apply ha
  unfold byteAt at h
  have hn : (((a.length : Int) - 1).toNat) = a.length - 1 := by omega
  rw [hn] at h
  rw [List.getLast?_eq_getElem?]
  have hlt : a.length - 1 < a.length := by omega
  rw [List.getD_eq_getElem?_getD, List.getElem?_eq_getElem hlt] at h
  rw [List.getElem?_eq_getElem hlt]
  congr 1
  apply UInt8.toNat_inj.1
  exact Int.ofNat_inj.1 (by simpa using h)
theorem last_rep {a : List UInt8} {j : Nat} {c : UInt8} : byteAt (a ++ List.replicate (j + 1) c) (((a ++ List.replicate (j + 1) c).length : Int) - 1) = (c.toNat : Int) := by
  unfold byteAt
  have hn : ((((a ++ List.replicate (j + 1) c).length : Int)) - 1).toNat = a.length + j := by simp; omega
  rw [hn, List.getD_eq_getElem?_getD, List.getElem?_append_right (by omega)]
  simp
theorem trb (a : List UInt8) (k : Nat) (hl : a.length + k ≤ 9223372036854775807) (ha : a.getLast? ≠ some 92) : Cp Tryz.prog EU 24 [.str (a ++ List.replicate k 92), .int .u8 92] (.str a) := by
  refine Cp.body (fn := Tryz.f24) Tryz.func24 rfl (by kernel_rfl) ?_
  refine Wc.seq ?_
  refine Wc.whole (b := (base 24 23)) [0, 1, 4] [(0, (.str (a ++ List.replicate k 92))), (1, (.int .u8 92)), (4, (.str []))] Heap.empty [] (by kernel_rfl) .nil ?_
  refine Wc.seq ?_
  refine Wc.block ?_
  refine Wc.loop (α := Nat) (fun j => (base 24 23).on [(0, .str (a ++ List.replicate j 92)), (1, .int .u8 92)]) (fun _ => Heap.empty) (fun j => j ≤ k) (fun j => j) k (Le.on [0, 1] (by kernel_rfl)) rfl (Nat.le_refl _) ?_
  intro j hj
  have hlen : ((a ++ List.replicate j (92 : UInt8)).length) = a.length + j := by simp
  refine Wc.seq ?_
  refine Wc.seq ?_
  refine Wc.enter ?_
  refine Wl.batch (b := (base 24 23)) 0 4 [0, 1, 8] [(0, (.str (a ++ List.replicate j 92))), (1, (.int .u8 92)), (8, (.bool (decide (0 < (↑(List.length (a ++ List.replicate j 92)) : Int)))))] Heap.empty [] (by kernel_rfl) rfl .nil ?_
  refine Wl.join (b := (base 24 23)) (p := 0 < (↑(List.length (a ++ List.replicate j 92)) : Int)) [(0, (.str (a ++ List.replicate j 92))), (1, (.int .u8 92)), (16, (.bool (decide ((0 < (↑(List.length (a ++ List.replicate j 92)) : Int)) ∧ (byteAt (a ++ List.replicate j 92) ((↑(List.length (a ++ List.replicate j 92)) : Int) - 1) = 92)))))] Heap.empty (fun c1 => ?_) (fun c1 => ?_) ?_
  · refine Wl.known [(0, (.str (a ++ List.replicate j 92))), (1, (.int .u8 92)), (8, (.bool true))] (by have e := decide_eq_true c1; simp only [e] <;> rfl) ?_
    refine Wl.batch (b := (base 24 23)) 4 12 [0, 1, 16] [(0, (.str (a ++ List.replicate j 92))), (1, (.int .u8 92)), (16, (.bool (decide (byteAt (a ++ List.replicate j 92) ((↑(List.length (a ++ List.replicate j 92)) : Int) - 1) = 92))))] Heap.empty [(((-9223372036854775808 : Int) ≤ (↑(List.length (a ++ List.replicate j (92 : UInt8))) : Int) - (1 : Int)) ∧ ((↑(List.length (a ++ List.replicate j (92 : UInt8))) : Int) - (1 : Int) ≤ (9223372036854775807 : Int))), (((0 : Int) ≤ (↑(List.length (a ++ List.replicate j (92 : UInt8))) : Int) - (1 : Int)) ∧ ((↑(List.length (a ++ List.replicate j (92 : UInt8))) : Int) - (1 : Int) < (↑(List.length (a ++ List.replicate j (92 : UInt8))) : Int)))] (by kernel_rfl) rfl (.cons (by omega) (.cons (by omega) .nil)) ?_
    refine Wl.done 12 rfl ?_
    exact ⟨Le.on' [0, 1, 16] [(0, (.str (a ++ List.replicate j 92))), (1, (.int .u8 92)), (16, (.bool (decide (byteAt (a ++ List.replicate j 92) ((↑(List.length (a ++ List.replicate j 92)) : Int) - 1) = 92))))] (by kernel_rfl) (by rw [decAnd c1] <;> rfl), by kernel_rfl⟩
  · refine Wl.known [(0, (.str (a ++ List.replicate j 92))), (1, (.int .u8 92)), (8, (.bool false))] (by have e := decide_eq_false c1; simp only [e] <;> rfl) ?_
    refine Wl.batch (b := (base 24 23)) 4 12 [0, 1, 16] [(0, (.str (a ++ List.replicate j 92))), (1, (.int .u8 92)), (16, (.bool false))] Heap.empty [] (by kernel_rfl) rfl .nil ?_
    refine Wl.done 12 rfl ?_
    exact ⟨Le.on' [0, 1, 16] [(0, (.str (a ++ List.replicate j 92))), (1, (.int .u8 92)), (16, (.bool false))] (by kernel_rfl) (by rw [decAndF c1] <;> rfl), by kernel_rfl⟩
  refine Wc.condP (p := 0 < (↑(List.length (a ++ List.replicate j 92)) : Int) ∧ byteAt (a ++ List.replicate j 92) ((↑(List.length (a ++ List.replicate j 92)) : Int) - 1) = 92) (by kernel_rfl) (by kernel_rfl) (fun c2 => ?_) (fun c2 => ?_)
  · refine Wc.skip ?_
    refine Wc.block ?_
    refine Wc.whole (b := (base 24 23)) [0, 1, 16] [(0, (.str (List.take (Int.toNat ((↑(List.length (a ++ List.replicate j 92)) : Int) - 1)) (a ++ List.replicate j 92)))), (1, (.int .u8 92)), (16, (.bool (decide (0 < (↑(List.length (a ++ List.replicate j 92)) : Int) ∧ byteAt (a ++ List.replicate j 92) ((↑(List.length (a ++ List.replicate j 92)) : Int) - 1) = 92))))] Heap.empty [(((-9223372036854775808 : Int) ≤ (↑(List.length (a ++ List.replicate j (92 : UInt8))) : Int) - (1 : Int)) ∧ ((↑(List.length (a ++ List.replicate j (92 : UInt8))) : Int) - (1 : Int) ≤ (9223372036854775807 : Int))), (((0 : Int) ≤ (↑(List.length (a ++ List.replicate j (92 : UInt8))) : Int) - (1 : Int)) ∧ ((↑(List.length (a ++ List.replicate j (92 : UInt8))) : Int) - (1 : Int) ≤ (↑(List.length (a ++ List.replicate j (92 : UInt8))) : Int)))] (by kernel_rfl) (.cons (by omega) (.cons (by omega) .nil)) ?_
    cases j with
    | zero =>
      exfalso
      rw [List.replicate_zero, List.append_nil] at c2
      exact last_ne ha c2.1 c2.2
    | succ j =>
      refine ⟨j, Le.on' [0, 1] [(0, .str ((a ++ List.replicate (j + 1) 92).take (Int.toNat (((a ++ List.replicate (j + 1) 92).length : Int) - 1)))), (1, .int .u8 92)] (by kernel_rfl) ?_, rfl, by omega, by omega⟩
      have e : Int.toNat (((a ++ List.replicate (j + 1) (92 : UInt8)).length : Int) - 1) = (a ++ List.replicate (j + 1) (92 : UInt8)).length - 1 := by omega
      rw [e, take_app_rep]
  · refine Wc.exit ?_
    refine blockX.here ?_
    refine Wc.seq ?_
    refine Wc.whole (b := (base 24 23)) [0, 1, 4, 16] [(0, (.str (a ++ List.replicate j 92))), (1, (.int .u8 92)), (4, (.str (a ++ List.replicate j 92))), (16, (.bool (decide (0 < (↑(List.length (a ++ List.replicate j 92)) : Int) ∧ byteAt (a ++ List.replicate j 92) ((↑(List.length (a ++ List.replicate j 92)) : Int) - 1) = 92))))] Heap.empty [] (by kernel_rfl) .nil ?_
    refine Wc.ret ?_
    refine retX.mk (.str (a ++ List.replicate j 92)) ⟨rfl, rfl⟩ (by kernel_rfl) ?_
    have e : a ++ List.replicate j (92 : UInt8) = a := by
      cases j with
      | zero => rw [List.replicate_zero, List.append_nil]
      | succ j => exact absurd (show (0 : Int) < _ ∧ _ = (92 : Int) from ⟨by rw [hlen]; omega, last_rep⟩) c2
    rw [e]; rfl
theorem tr (a : List UInt8) (k : Nat) (hl : a.length + k ≤ 9223372036854775807) (ha : a.getLast? ≠ some 92) : Cp Tryz.prog EU 9 [.str (a ++ List.replicate k 92), .str [92]] (.str a) := by
  have c300 := trb a k hl ha
  refine Cp.body (fn := Tryz.f9) Tryz.func9 rfl (by kernel_rfl) ?_
  refine Wc.seq ?_
  refine Wc.whole (b := (base 9 37)) [0, 1, 4] [(0, (.str (a ++ List.replicate k 92))), (1, (.str [92])), (4, (.str []))] Heap.empty [] (by kernel_rfl) .nil ?_
  refine Wc.seq ?_
  refine Wc.seq ?_
  refine Wc.enter ?_
  refine Wl.batch (b := (base 9 37)) 0 3 [0, 1, 4, 9] [(0, (.str (a ++ List.replicate k 92))), (1, (.str [92])), (4, (.str [])), (9, (.bool (decide (a ++ List.replicate k 92 = []))))] Heap.empty [] (by kernel_rfl) rfl .nil ?_
  refine Wl.join (b := (base 9 37)) (p := a ++ List.replicate k 92 = []) [(0, (.str (a ++ List.replicate k 92))), (1, (.str [92])), (4, (.str [])), (12, (.bool (decide (a ++ List.replicate k 92 = []))))] Heap.empty (fun c1 => ?_) (fun c1 => ?_) ?_
  · refine Wl.known [(0, (.str (a ++ List.replicate k 92))), (1, (.str [92])), (4, (.str [])), (9, (.bool true))] (by have e := decide_eq_true c1; simp only [e] <;> rfl) ?_
    refine Wl.batch (b := (base 9 37)) 3 6 [0, 1, 4, 12] [(0, (.str (a ++ List.replicate k 92))), (1, (.str [92])), (4, (.str [])), (12, (.bool true))] Heap.empty [] (by kernel_rfl) rfl .nil ?_
    refine Wl.done 6 rfl ?_
    exact ⟨Le.on' [0, 1, 4, 12] [(0, (.str (a ++ List.replicate k 92))), (1, (.str [92])), (4, (.str [])), (12, (.bool true))] (by kernel_rfl) (by simp [c1]), by kernel_rfl⟩
  · refine Wl.known [(0, (.str (a ++ List.replicate k 92))), (1, (.str [92])), (4, (.str [])), (9, (.bool false))] (by have e := decide_eq_false c1; simp only [e] <;> rfl) ?_
    refine Wl.batch (b := (base 9 37)) 3 6 [0, 1, 4, 12] [(0, (.str (a ++ List.replicate k 92))), (1, (.str [92])), (4, (.str [])), (12, (.bool false))] Heap.empty [] (by kernel_rfl) rfl .nil ?_
    refine Wl.done 6 rfl ?_
    exact ⟨Le.on' [0, 1, 4, 12] [(0, (.str (a ++ List.replicate k 92))), (1, (.str [92])), (4, (.str [])), (12, (.bool false))] (by kernel_rfl) (by simp [c1]), by kernel_rfl⟩
  refine Wc.condP (p := a ++ List.replicate k 92 = []) (by kernel_rfl) (by kernel_rfl) (fun c2 => ?_) (fun c2 => ?_)
  · refine Wc.seq ?_
    refine Wc.whole (b := (base 9 37)) [0, 1, 4, 12] [(0, (.str (a ++ List.replicate k 92))), (1, (.str [92])), (4, (.str (a ++ List.replicate k 92))), (12, (.bool (decide (a ++ List.replicate k 92 = []))))] Heap.empty [] (by kernel_rfl) .nil ?_
    refine Wc.ret ?_
    refine retX.mk (.str (a ++ List.replicate k 92)) ⟨rfl, rfl⟩ (by kernel_rfl) ?_
    have e : a = [] ∧ k = 0 := by
      have := congrArg List.length c2
      simp at this
      exact ⟨this.1, this.2⟩
    rw [e.1, e.2]; rfl
  · refine Wc.skip ?_
    refine Wc.seq ?_
    refine Wc.seq ?_
    refine Wc.whole (b := (base 9 37)) [0, 1, 4, 12, 21] [(0, (.str (a ++ List.replicate k 92))), (1, (.str [92])), (4, (.str [])), (12, (.bool (decide (a ++ List.replicate k 92 = [])))), (21, (.bool true))] Heap.empty [(((0 : Int) ≤ (0 : Int)) ∧ ((0 : Int) < (1 : Int)))] (by kernel_rfl) (.cons (by omega) .nil) ?_
    refine Wc.condT (by kernel_rfl) (by kernel_rfl) ?_
    refine Wc.seq ?_
    refine Wc.enter ?_
    refine Wl.batch (b := (base 9 37)) 0 3 [0, 1, 4, 12, 21, 22, 24] [(0, (.str (a ++ List.replicate k 92))), (1, (.str [92])), (4, (.str [])), (12, (.bool (decide (a ++ List.replicate k 92 = [])))), (21, (.bool true)), (22, (.str (a ++ List.replicate k 92))), (24, (.int .u8 92))] Heap.empty [(((0 : Int) ≤ (0 : Int)) ∧ ((0 : Int) < (1 : Int)))] (by kernel_rfl) rfl (.cons (by omega) .nil) ?_
    refine Wl.callP (b := (base 9 37)) (h1 := Heap.empty) (h2 := Heap.empty) (v := (.str (a))) (d := (some 25)) 3 [0, 1, 4, 12, 21, 25] [(0, (.str (a ++ List.replicate k 92))), (1, (.str [92])), (4, (.str [])), (12, (.bool (decide (a ++ List.replicate k 92 = [])))), (21, (.bool true)), (25, (.str (a)))] (@Go.AM.trb (a) (k) hl ha) (by kernel_rfl) (by kernel_rfl) (by kernel_rfl) ?_
    refine Wl.batch (b := (base 9 37)) 4 5 [0, 1, 4, 12, 21] [(0, (.str (a ++ List.replicate k 92))), (1, (.str [92])), (4, (.str (a))), (12, (.bool (decide (a ++ List.replicate k 92 = [])))), (21, (.bool true))] Heap.empty [] (by kernel_rfl) rfl .nil ?_
    refine Wl.done 5 rfl ?_
    refine Wc.ret ?_
    refine retX.mk (.str (a)) ⟨rfl, rfl⟩ (by kernel_rfl) ?_
    kernel_rfl
theorem hs1 (m : List UInt8) (hl : m.length + 1 ≤ 9223372036854775807) : Cp Tryz.prog EU 55 [.str (m ++ [13]), .str [13]] (.bool true) := by
  refine Cp.body (fn := Tryz.f55) Tryz.func55 rfl (by kernel_rfl) ?_
  have hlen : (m ++ [(13 : UInt8)]).length = m.length + 1 := by simp
  refine Wc.seq ?_
  refine Wc.whole (b := (base 55 21)) [0, 1, 4] [(0, (.str (m ++ [13]))), (1, (.str [13])), (4, (.bool false))] Heap.empty [] (by kernel_rfl) .nil ?_
  refine Wc.seq ?_
  refine Wc.enter ?_
  refine Wl.batch (b := (base 55 21)) 0 6 [0, 1, 4, 10] [(0, (.str (m ++ [13]))), (1, (.str [13])), (4, (.bool false)), (10, (.bool (decide (1 ≤ (↑(List.length (m ++ [13])) : Int)))))] Heap.empty [] (by kernel_rfl) rfl .nil ?_
  refine Wl.known [(0, (.str (m ++ [13]))), (1, (.str [13])), (4, (.bool false)), (10, (.bool true))] (by have e := decide_eq_true (show 1 ≤ (↑(List.length (m ++ [13])) : Int) from (by omega)); simp only [e] <;> rfl) ?_
  refine Wl.batch (b := (base 55 21)) 6 17 [0, 1, 4] [(0, (.str (m ++ [13]))), (1, (.str [13])), (4, (.bool (decide (List.drop (Int.toNat ((↑(List.length (m ++ [13])) : Int) - 1)) (m ++ [13]) = [13]))))] Heap.empty [(((-9223372036854775808 : Int) ≤ (↑(List.length (m ++ [(13 : UInt8)])) : Int) - (1 : Int)) ∧ ((↑(List.length (m ++ [(13 : UInt8)])) : Int) - (1 : Int) ≤ (9223372036854775807 : Int))), (((0 : Int) ≤ (↑(List.length (m ++ [(13 : UInt8)])) : Int) - (1 : Int)) ∧ ((↑(List.length (m ++ [(13 : UInt8)])) : Int) - (1 : Int) ≤ (↑(List.length (m ++ [(13 : UInt8)])) : Int)))] (by kernel_rfl) rfl (.cons (by omega) (.cons (by omega) .nil)) ?_
  refine Wl.done 17 rfl ?_
  refine Wc.ret ?_
  refine retX.mk (.bool (decide (List.drop (Int.toNat ((↑(List.length (m ++ [13])) : Int) - 1)) (m ++ [13]) = [13]))) ⟨rfl, rfl⟩ (by kernel_rfl) ?_
  have e : Int.toNat (((m ++ [(13 : UInt8)]).length : Int) - 1) = m.length := by rw [hlen]; omega
  rw [e, List.drop_left' rfl]; rfl
theorem hs0 (m : List UInt8) (hl : m.length ≤ 9223372036854775807) (hm : m.getLast? ≠ some 13) : Cp Tryz.prog EU 55 [.str m, .str [13]] (.bool false) := by
  refine Cp.body (fn := Tryz.f55) Tryz.func55 rfl (by kernel_rfl) ?_
  refine Wc.seq ?_
  refine Wc.whole (b := (base 55 21)) [0, 1, 4] [(0, (.str (m))), (1, (.str [13])), (4, (.bool false))] Heap.empty [] (by kernel_rfl) .nil ?_
  refine Wc.seq ?_
  refine Wc.enter ?_
  refine Wl.batch (b := (base 55 21)) 0 6 [0, 1, 4, 10] [(0, (.str (m))), (1, (.str [13])), (4, (.bool false)), (10, (.bool (decide (1 ≤ (↑(List.length m) : Int)))))] Heap.empty [] (by kernel_rfl) rfl .nil ?_
  refine Wl.join (b := (base 55 21)) (p := 1 ≤ (↑(List.length m) : Int)) [(0, (.str (m))), (1, (.str [13])), (4, (.bool (decide ((1 ≤ (↑(List.length m) : Int)) ∧ (List.drop (Int.toNat ((↑(List.length m) : Int) - 1)) m = [13])))))] Heap.empty (fun c1 => ?_) (fun c1 => ?_) ?_
  · refine Wl.known [(0, (.str (m))), (1, (.str [13])), (4, (.bool false)), (10, (.bool true))] (by have e := decide_eq_true c1; simp only [e] <;> rfl) ?_
    refine Wl.batch (b := (base 55 21)) 6 17 [0, 1, 4] [(0, (.str (m))), (1, (.str [13])), (4, (.bool (decide (List.drop (Int.toNat ((↑(List.length m) : Int) - 1)) m = [13]))))] Heap.empty [(((-9223372036854775808 : Int) ≤ (↑(List.length m) : Int) - (1 : Int)) ∧ ((↑(List.length m) : Int) - (1 : Int) ≤ (9223372036854775807 : Int))), (((0 : Int) ≤ (↑(List.length m) : Int) - (1 : Int)) ∧ ((↑(List.length m) : Int) - (1 : Int) ≤ (↑(List.length m) : Int)))] (by kernel_rfl) rfl (.cons (by omega) (.cons (by omega) .nil)) ?_
    refine Wl.done 17 rfl ?_
    exact ⟨Le.on' [0, 1, 4] [(0, (.str (m))), (1, (.str [13])), (4, (.bool (decide (List.drop (Int.toNat ((↑(List.length m) : Int) - 1)) m = [13]))))] (by kernel_rfl) (by rw [decAnd c1] <;> rfl), by kernel_rfl⟩
  · refine Wl.known [(0, (.str (m))), (1, (.str [13])), (4, (.bool false)), (10, (.bool false))] (by have e := decide_eq_false c1; simp only [e] <;> rfl) ?_
    refine Wl.batch (b := (base 55 21)) 6 17 [0, 1, 4] [(0, (.str (m))), (1, (.str [13])), (4, (.bool false))] Heap.empty [] (by kernel_rfl) rfl .nil ?_
    refine Wl.done 17 rfl ?_
    exact ⟨Le.on' [0, 1, 4] [(0, (.str (m))), (1, (.str [13])), (4, (.bool false))] (by kernel_rfl) (by rw [decAndF c1] <;> rfl), by kernel_rfl⟩
  refine Wc.ret ?_
  refine retX.mk (.bool (decide (1 ≤ (↑(List.length m) : Int) ∧ List.drop (Int.toNat ((↑(List.length m) : Int) - 1)) m = [13]))) ⟨rfl, rfl⟩ (by kernel_rfl) ?_
  rw [decide_eq_false (fun q => ?_)]; rfl
  apply hm
  have e : Int.toNat ((m.length : Int) - 1) = m.length - 1 := by omega
  rw [e] at q
  have h0 := congrArg (fun l => l[0]?) q.2
  simp only [List.getElem?_drop, Nat.add_zero] at h0
  rw [List.getLast?_eq_getElem?, h0]; rfl
theorem ts1 (m : List UInt8) (hl : m.length + 1 ≤ 9223372036854775807) : Cp Tryz.prog EU 23 [.str (m ++ [13]), .str [13]] (.str m) := by
  have hlen : (m ++ [(13 : UInt8)]).length = m.length + 1 := by simp
  refine Cp.body (fn := Tryz.f23) Tryz.func23 rfl (by kernel_rfl) ?_
  refine Wc.seq ?_
  refine Wc.whole (b := (base 23 16)) [0, 1, 4] [(0, (.str (m ++ [13]))), (1, (.str [13])), (4, (.str []))] Heap.empty [] (by kernel_rfl) .nil ?_
  refine Wc.seq ?_
  refine Wc.seq ?_
  refine Wc.enter ?_
  refine Wl.batch (b := (base 23 16)) 0 2 [0, 1, 4, 5, 6] [(0, (.str (m ++ [13]))), (1, (.str [13])), (4, (.str [])), (5, (.str (m ++ [13]))), (6, (.str [13]))] Heap.empty [] (by kernel_rfl) rfl .nil ?_
  refine Wl.callP (b := (base 23 16)) (h1 := Heap.empty) (h2 := Heap.empty) (v := (.bool true)) (d := (some 7)) 2 [0, 1, 4, 7] [(0, (.str (m ++ [13]))), (1, (.str [13])), (4, (.str [])), (7, (.bool true))] (@Go.AM.hs1 (m) hl) (by kernel_rfl) (by kernel_rfl) (by kernel_rfl) ?_
  refine Wl.done 3 rfl ?_
  refine Wc.condT (by kernel_rfl) (by kernel_rfl) ?_
  refine Wc.seq ?_
  refine Wc.whole (b := (base 23 16)) [0, 1, 4, 7] [(0, (.str (m ++ [13]))), (1, (.str [13])), (4, (.str (List.take (Int.toNat ((↑(List.length (m ++ [13])) : Int) - 1)) (m ++ [13])))), (7, (.bool true))] Heap.empty [(((-9223372036854775808 : Int) ≤ (↑(List.length (m ++ [(13 : UInt8)])) : Int) - (1 : Int)) ∧ ((↑(List.length (m ++ [(13 : UInt8)])) : Int) - (1 : Int) ≤ (9223372036854775807 : Int))), (((0 : Int) ≤ (↑(List.length (m ++ [(13 : UInt8)])) : Int) - (1 : Int)) ∧ ((↑(List.length (m ++ [(13 : UInt8)])) : Int) - (1 : Int) ≤ (↑(List.length (m ++ [(13 : UInt8)])) : Int)))] (by kernel_rfl) (.cons (by omega) (.cons (by omega) .nil)) ?_
  refine Wc.ret ?_
  refine retX.mk (.str (List.take (Int.toNat ((↑(List.length (m ++ [13])) : Int) - 1)) (m ++ [13]))) ⟨rfl, rfl⟩ (by kernel_rfl) ?_
  have e : Int.toNat (((m ++ [(13 : UInt8)]).length : Int) - 1) = m.length := by rw [hlen]; omega
  rw [e, List.take_left' rfl]; rfl
theorem ts0 (m : List UInt8) (hl : m.length ≤ 9223372036854775807) (hm : m.getLast? ≠ some 13) : Cp Tryz.prog EU 23 [.str m, .str [13]] (.str m) := by
  refine Cp.body (fn := Tryz.f23) Tryz.func23 rfl (by kernel_rfl) ?_
  refine Wc.seq ?_
  refine Wc.whole (b := (base 23 16)) [0, 1, 4] [(0, (.str (m))), (1, (.str [13])), (4, (.str []))] Heap.empty [] (by kernel_rfl) .nil ?_
  refine Wc.seq ?_
  refine Wc.seq ?_
  refine Wc.enter ?_
  refine Wl.batch (b := (base 23 16)) 0 2 [0, 1, 4, 5, 6] [(0, (.str (m))), (1, (.str [13])), (4, (.str [])), (5, (.str (m))), (6, (.str [13]))] Heap.empty [] (by kernel_rfl) rfl .nil ?_
  refine Wl.callP (b := (base 23 16)) (h1 := Heap.empty) (h2 := Heap.empty) (v := (.bool false)) (d := (some 7)) 2 [0, 1, 4, 7] [(0, (.str (m))), (1, (.str [13])), (4, (.str [])), (7, (.bool false))] (@Go.AM.hs0 (m) hl hm) (by kernel_rfl) (by kernel_rfl) (by kernel_rfl) ?_
  refine Wl.done 3 rfl ?_
  refine Wc.condF (by kernel_rfl) (by kernel_rfl) ?_
  refine Wc.skip ?_
  refine Wc.seq ?_
  refine Wc.whole (b := (base 23 16)) [0, 1, 4, 7] [(0, (.str (m))), (1, (.str [13])), (4, (.str (m))), (7, (.bool false))] Heap.empty [] (by kernel_rfl) .nil ?_
  refine Wc.ret ?_
  refine retX.mk (.str (m)) ⟨rfl, rfl⟩ (by kernel_rfl) ?_
  kernel_rfl
theorem tx1 (m : List UInt8) (hl : m.length + 1 ≤ 9223372036854775807) : Cp Tryz.prog EU 8 [.str (m ++ [13]), .str [13]] (.str m) := by
  refine Cp.body (fn := Tryz.f8) Tryz.func8 rfl (by kernel_rfl) ?_
  refine Wc.seq ?_
  refine Wc.whole (b := (base 8 8)) [0, 1, 4] [(0, (.str (m ++ [13]))), (1, (.str [13])), (4, (.str []))] Heap.empty [] (by kernel_rfl) .nil ?_
  refine Wc.seq ?_
  refine Wc.enter ?_
  refine Wl.batch (b := (base 8 8)) 0 2 [0, 1, 4, 5, 6] [(0, (.str (m ++ [13]))), (1, (.str [13])), (4, (.str [])), (5, (.str (m ++ [13]))), (6, (.str [13]))] Heap.empty [] (by kernel_rfl) rfl .nil ?_
  refine Wl.callP (b := (base 8 8)) (h1 := Heap.empty) (h2 := Heap.empty) (v := (.str (m))) (d := (some 7)) 2 [0, 1, 4, 7] [(0, (.str (m ++ [13]))), (1, (.str [13])), (4, (.str [])), (7, (.str (m)))] (@Go.AM.ts1 (m) hl) (by kernel_rfl) (by kernel_rfl) (by kernel_rfl) ?_
  refine Wl.batch (b := (base 8 8)) 3 4 [0, 1, 4] [(0, (.str (m ++ [13]))), (1, (.str [13])), (4, (.str (m)))] Heap.empty [] (by kernel_rfl) rfl .nil ?_
  refine Wl.done 4 rfl ?_
  refine Wc.ret ?_
  refine retX.mk (.str (m)) ⟨rfl, rfl⟩ (by kernel_rfl) ?_
  kernel_rfl
theorem tx0 (m : List UInt8) (hl : m.length ≤ 9223372036854775807) (hm : m.getLast? ≠ some 13) : Cp Tryz.prog EU 8 [.str m, .str [13]] (.str m) := by
  refine Cp.body (fn := Tryz.f8) Tryz.func8 rfl (by kernel_rfl) ?_
  refine Wc.seq ?_
  refine Wc.whole (b := (base 8 8)) [0, 1, 4] [(0, (.str (m))), (1, (.str [13])), (4, (.str []))] Heap.empty [] (by kernel_rfl) .nil ?_
  refine Wc.seq ?_
  refine Wc.enter ?_
  refine Wl.batch (b := (base 8 8)) 0 2 [0, 1, 4, 5, 6] [(0, (.str (m))), (1, (.str [13])), (4, (.str [])), (5, (.str (m))), (6, (.str [13]))] Heap.empty [] (by kernel_rfl) rfl .nil ?_
  refine Wl.callP (b := (base 8 8)) (h1 := Heap.empty) (h2 := Heap.empty) (v := (.str (m))) (d := (some 7)) 2 [0, 1, 4, 7] [(0, (.str (m))), (1, (.str [13])), (4, (.str [])), (7, (.str (m)))] (@Go.AM.ts0 (m) hl hm) (by kernel_rfl) (by kernel_rfl) (by kernel_rfl) ?_
  refine Wl.batch (b := (base 8 8)) 3 4 [0, 1, 4] [(0, (.str (m))), (1, (.str [13])), (4, (.str (m)))] Heap.empty [] (by kernel_rfl) rfl .nil ?_
  refine Wl.done 4 rfl ?_
  refine Wc.ret ?_
  refine retX.mk (.str (m)) ⟨rfl, rfl⟩ (by kernel_rfl) ?_
  kernel_rfl
theorem lo1 (a : List UInt8) (k : Nat) (hl : a.length + k + 1 ≤ 9223372036854775807) (ha : a.getLast? ≠ some 92) : Cp Tryz.prog EU 5 [.str ((a ++ List.replicate k 92) ++ [13])] (.bool (decide ((k : Int) % 2 = 1))) := by
  have hm : (a ++ List.replicate k (92 : UInt8)).length + 1 ≤ 9223372036854775807 := by rw [List.length_append, List.length_replicate]; omega
  have hk : a.length + k ≤ 9223372036854775807 := by omega
  have hlen : ((a ++ List.replicate k (92 : UInt8)).length : Int) = (a.length : Int) + k := by rw [List.length_append, List.length_replicate]; omega
  refine Cp.body (fn := Tryz.f5) Tryz.func5 rfl (by kernel_rfl) ?_
  refine Wc.seq ?_
  refine Wc.whole (b := (base 5 14)) [0, 2] [(0, (.str (a ++ List.replicate k 92 ++ [13]))), (2, (.bool false))] Heap.empty [] (by kernel_rfl) .nil ?_
  refine Wc.seq ?_
  refine Wc.enter ?_
  refine Wl.batch (b := (base 5 14)) 0 1 [0, 2, 4] [(0, (.str (a ++ List.replicate k 92 ++ [13]))), (2, (.bool false)), (4, (.str (a ++ List.replicate k 92 ++ [13])))] Heap.empty [] (by kernel_rfl) rfl .nil ?_
  refine Wl.callP (b := (base 5 14)) (h1 := Heap.empty) (h2 := Heap.empty) (v := (.str (a ++ List.replicate k 92))) (d := (some 5)) 1 [0, 2, 5] [(0, (.str (a ++ List.replicate k 92 ++ [13]))), (2, (.bool false)), (5, (.str (a ++ List.replicate k 92)))] (@Go.AM.tx1 (a ++ List.replicate k 92) hm) (by kernel_rfl) (by kernel_rfl) (by kernel_rfl) ?_
  refine Wl.batch (b := (base 5 14)) 2 3 [0, 2, 3] [(0, (.str (a ++ List.replicate k 92 ++ [13]))), (2, (.bool false)), (3, (.str (a ++ List.replicate k 92)))] Heap.empty [] (by kernel_rfl) rfl .nil ?_
  refine Wl.done 3 rfl ?_
  refine Wc.seq ?_
  refine Wc.enter ?_
  refine Wl.batch (b := (base 5 14)) 0 3 [0, 2, 3, 7, 8] [(0, (.str (a ++ List.replicate k 92 ++ [13]))), (2, (.bool false)), (3, (.str (a ++ List.replicate k 92))), (7, (.int .i64 ((↑(List.length (a ++ List.replicate k 92)) : Int)))), (8, (.str (a ++ List.replicate k 92)))] Heap.empty [] (by kernel_rfl) rfl .nil ?_
  refine Wl.callP (b := (base 5 14)) (h1 := Heap.empty) (h2 := Heap.empty) (v := (.str (a))) (d := (some 9)) 3 [0, 2, 3, 7, 9] [(0, (.str (a ++ List.replicate k 92 ++ [13]))), (2, (.bool false)), (3, (.str (a ++ List.replicate k 92))), (7, (.int .i64 ((↑(List.length (a ++ List.replicate k 92)) : Int)))), (9, (.str (a)))] (@Go.AM.tr (a) (k) hk ha) (by kernel_rfl) (by kernel_rfl) (by kernel_rfl) ?_
  refine Wl.batch (b := (base 5 14)) 4 9 [0, 2, 3] [(0, (.str (a ++ List.replicate k 92 ++ [13]))), (2, (.bool (decide (((↑(List.length (a ++ List.replicate k 92)) : Int) - (↑(List.length a) : Int)) % 2 = 1)))), (3, (.str (a ++ List.replicate k 92)))] Heap.empty [(((-9223372036854775808 : Int) ≤ (↑(List.length (a ++ List.replicate k (92 : UInt8))) : Int) - (↑(List.length a) : Int)) ∧ ((↑(List.length (a ++ List.replicate k (92 : UInt8))) : Int) - (↑(List.length a) : Int) ≤ (9223372036854775807 : Int))), (((0 : Int) ≤ (↑(List.length (a ++ List.replicate k (92 : UInt8))) : Int) - (↑(List.length a) : Int)) ∧ ((0 : Int) < (2 : Int)))] (by kernel_rfl) rfl (.cons (by omega) (.cons (by omega) .nil)) ?_
  refine Wl.done 9 rfl ?_
  refine Wc.ret ?_
  refine retX.mk (.bool (decide (((↑(List.length (a ++ List.replicate k 92)) : Int) - (↑(List.length a) : Int)) % 2 = 1))) ⟨rfl, rfl⟩ (by kernel_rfl) ?_
  rw [hlen, show (a.length : Int) + k - a.length = k by omega]; rfl
theorem lo0 (a : List UInt8) (k : Nat) (hl : a.length + k + 1 ≤ 9223372036854775807) (ha : a.getLast? ≠ some 92) (hn : (a ++ List.replicate k 92).getLast? ≠ some 13) : Cp Tryz.prog EU 5 [.str (a ++ List.replicate k 92)] (.bool (decide ((k : Int) % 2 = 1))) := by
  have hm : (a ++ List.replicate k (92 : UInt8)).length ≤ 9223372036854775807 := by rw [List.length_append, List.length_replicate]; omega
  have hk : a.length + k ≤ 9223372036854775807 := by omega
  have hlen : ((a ++ List.replicate k (92 : UInt8)).length : Int) = (a.length : Int) + k := by rw [List.length_append, List.length_replicate]; omega
  refine Cp.body (fn := Tryz.f5) Tryz.func5 rfl (by kernel_rfl) ?_
  refine Wc.seq ?_
  refine Wc.whole (b := (base 5 14)) [0, 2] [(0, (.str (a ++ List.replicate k 92))), (2, (.bool false))] Heap.empty [] (by kernel_rfl) .nil ?_
  refine Wc.seq ?_
  refine Wc.enter ?_
  refine Wl.batch (b := (base 5 14)) 0 1 [0, 2, 4] [(0, (.str (a ++ List.replicate k 92))), (2, (.bool false)), (4, (.str (a ++ List.replicate k 92)))] Heap.empty [] (by kernel_rfl) rfl .nil ?_
  refine Wl.callP (b := (base 5 14)) (h1 := Heap.empty) (h2 := Heap.empty) (v := (.str (a ++ List.replicate k 92))) (d := (some 5)) 1 [0, 2, 5] [(0, (.str (a ++ List.replicate k 92))), (2, (.bool false)), (5, (.str (a ++ List.replicate k 92)))] (@Go.AM.tx0 (a ++ List.replicate k 92) hm hn) (by kernel_rfl) (by kernel_rfl) (by kernel_rfl) ?_
  refine Wl.batch (b := (base 5 14)) 2 3 [0, 2, 3] [(0, (.str (a ++ List.replicate k 92))), (2, (.bool false)), (3, (.str (a ++ List.replicate k 92)))] Heap.empty [] (by kernel_rfl) rfl .nil ?_
  refine Wl.done 3 rfl ?_
  refine Wc.seq ?_
  refine Wc.enter ?_
  refine Wl.batch (b := (base 5 14)) 0 3 [0, 2, 3, 7, 8] [(0, (.str (a ++ List.replicate k 92))), (2, (.bool false)), (3, (.str (a ++ List.replicate k 92))), (7, (.int .i64 ((↑(List.length (a ++ List.replicate k 92)) : Int)))), (8, (.str (a ++ List.replicate k 92)))] Heap.empty [] (by kernel_rfl) rfl .nil ?_
  refine Wl.callP (b := (base 5 14)) (h1 := Heap.empty) (h2 := Heap.empty) (v := (.str (a))) (d := (some 9)) 3 [0, 2, 3, 7, 9] [(0, (.str (a ++ List.replicate k 92))), (2, (.bool false)), (3, (.str (a ++ List.replicate k 92))), (7, (.int .i64 ((↑(List.length (a ++ List.replicate k 92)) : Int)))), (9, (.str (a)))] (@Go.AM.tr (a) (k) hk ha) (by kernel_rfl) (by kernel_rfl) (by kernel_rfl) ?_
  refine Wl.batch (b := (base 5 14)) 4 9 [0, 2, 3] [(0, (.str (a ++ List.replicate k 92))), (2, (.bool (decide (((↑(List.length (a ++ List.replicate k 92)) : Int) - (↑(List.length a) : Int)) % 2 = 1)))), (3, (.str (a ++ List.replicate k 92)))] Heap.empty [(((-9223372036854775808 : Int) ≤ (↑(List.length (a ++ List.replicate k (92 : UInt8))) : Int) - (↑(List.length a) : Int)) ∧ ((↑(List.length (a ++ List.replicate k (92 : UInt8))) : Int) - (↑(List.length a) : Int) ≤ (9223372036854775807 : Int))), (((0 : Int) ≤ (↑(List.length (a ++ List.replicate k (92 : UInt8))) : Int) - (↑(List.length a) : Int)) ∧ ((0 : Int) < (2 : Int)))] (by kernel_rfl) rfl (.cons (by omega) (.cons (by omega) .nil)) ?_
  refine Wl.done 9 rfl ?_
  refine Wc.ret ?_
  refine retX.mk (.bool (decide (((↑(List.length (a ++ List.replicate k 92)) : Int) - (↑(List.length a) : Int)) % 2 = 1))) ⟨rfl, rfl⟩ (by kernel_rfl) ?_
  rw [hlen, show (a.length : Int) + k - a.length = k by omega]; rfl
theorem c0 (t : List UInt8) (hl : t.length + 5 ≤ 9223372036854775807) (ht : t.getLast? = some 120) : Cp Tryz.prog EU 5 [.str (t ++ [13])] (.bool false) := by
  have h := lo1 t 0 (by omega) (by rw [ht]; decide)
  rw [show t ++ List.replicate 0 (92 : UInt8) = t from List.append_nil t] at h
  exact h
theorem n0 (t : List UInt8) (hl : t.length + 5 ≤ 9223372036854775807) (ht : t.getLast? = some 120) : Cp Tryz.prog EU 5 [.str (t ++ [])] (.bool false) := by
  rw [List.append_nil]
  have h := lo0 t 0 (by omega) (by rw [ht]; decide) (by rw [show t ++ List.replicate 0 (92 : UInt8) = t from List.append_nil t, ht]; decide)
  rw [show t ++ List.replicate 0 (92 : UInt8) = t from List.append_nil t] at h
  exact h
theorem c1 (t : List UInt8) (hl : t.length + 5 ≤ 9223372036854775807) (ht : t.getLast? = some 120) : Cp Tryz.prog EU 5 [.str (t ++ [92] ++ [13])] (.bool true) := by
  have h := lo1 t 1 (by omega) (by rw [ht]; decide)
  exact h
theorem n1 (t : List UInt8) (hl : t.length + 5 ≤ 9223372036854775807) (ht : t.getLast? = some 120) : Cp Tryz.prog EU 5 [.str (t ++ [92] ++ [])] (.bool true) := by
  rw [List.append_nil]
  have h := lo0 t 1 (by omega) (by rw [ht]; decide) (by rw [List.getLast?_append]; exact fun h => by cases h)
  exact h
theorem c2 (t : List UInt8) (hl : t.length + 5 ≤ 9223372036854775807) (ht : t.getLast? = some 120) : Cp Tryz.prog EU 5 [.str (t ++ [92, 92] ++ [13])] (.bool false) := by
  have h := lo1 t 2 (by omega) (by rw [ht]; decide)
  exact h
theorem n2 (t : List UInt8) (hl : t.length + 5 ≤ 9223372036854775807) (ht : t.getLast? = some 120) : Cp Tryz.prog EU 5 [.str (t ++ [92, 92] ++ [])] (.bool false) := by
  rw [List.append_nil]
  have h := lo0 t 2 (by omega) (by rw [ht]; decide) (by rw [List.getLast?_append]; exact fun h => by cases h)
  exact h
theorem c3 (t : List UInt8) (hl : t.length + 5 ≤ 9223372036854775807) (ht : t.getLast? = some 120) : Cp Tryz.prog EU 5 [.str (t ++ [92, 92, 92] ++ [13])] (.bool true) := by
  have h := lo1 t 3 (by omega) (by rw [ht]; decide)
  exact h
theorem n3 (t : List UInt8) (hl : t.length + 5 ≤ 9223372036854775807) (ht : t.getLast? = some 120) : Cp Tryz.prog EU 5 [.str (t ++ [92, 92, 92] ++ [])] (.bool true) := by
  rw [List.append_nil]
  have h := lo0 t 3 (by omega) (by rw [ht]; decide) (by rw [List.getLast?_append]; exact fun h => by cases h)
  exact h
theorem n00 : Cp Tryz.prog EU 5 [.str []] (.bool false) := lo0 [] 0 (by decide) (by decide) (by decide)
theorem loose_law (s : List UInt8) (cr : Bool) (hs : s.length ≤ 9223372036854775807) : Cx Tryz.prog EU 3 [.str s, .bool cr] Heap.empty (fun v _ => v = .bool true) := by
  refine Ev.body (fn := Tryz.f3) Tryz.func3 rfl (by kernel_rfl) ?_
  by_cases h100 : ((s.length : Int)) > 100
  · refine Wc.seq ?_
    refine Wc.whole (b := (base 3 49)) [0, 1, 4] [(0, (.str (s))), (1, (.bool (cr))), (4, (.bool false))] Heap.empty [] (by kernel_rfl) .nil ?_
    refine Wc.seq ?_
    refine Wc.seq ?_
    refine Wc.whole (b := (base 3 49)) [0, 1, 4, 9] [(0, (.str (s))), (1, (.bool (cr))), (4, (.bool false)), (9, (.bool (decide (100 < (↑(List.length s) : Int)))))] Heap.empty [] (by kernel_rfl) .nil ?_
    refine Wc.condP (p := 100 < (↑(List.length s) : Int)) (by kernel_rfl) (by kernel_rfl) (fun c1 => ?_) (fun c1 => absurd (show 100 < (↑(List.length s) : Int) from (by omega)) c1)
    refine Wc.seq ?_
    refine Wc.whole (b := (base 3 49)) [0, 1, 4, 9] [(0, (.str (s))), (1, (.bool (cr))), (4, (.bool true)), (9, (.bool (decide (100 < (↑(List.length s) : Int)))))] Heap.empty [] (by kernel_rfl) .nil ?_
    refine Wc.ret ?_
    refine retX.mk (.bool true) ⟨rfl, rfl⟩ (by kernel_rfl) ?_
    kernel_rfl
  have ht : ([35] ++ s ++ [120] : List UInt8).getLast? = some 120 := by rw [List.getLast?_append]; rfl
  have hl : ([35] ++ s ++ [120] : List UInt8).length + 5 ≤ 9223372036854775807 := by simp only [List.length_append, List.length_cons, List.length_nil]; omega
  cases cr with
  | true => refine Wc.seq ?_
            refine Wc.whole (b := (base 3 49)) [0, 1, 4] [(0, (.str (s))), (1, (.bool true)), (4, (.bool false))] Heap.empty [] (by kernel_rfl) .nil ?_
            refine Wc.seq ?_
            refine Wc.seq ?_
            refine Wc.whole (b := (base 3 49)) [0, 1, 4, 9] [(0, (.str (s))), (1, (.bool true)), (4, (.bool false)), (9, (.bool (decide (100 < (↑(List.length s) : Int)))))] Heap.empty [] (by kernel_rfl) .nil ?_
            refine Wc.condP (p := 100 < (↑(List.length s) : Int)) (by kernel_rfl) (by kernel_rfl) (fun c1 => absurd c1 (show ¬ (100 < (↑(List.length s) : Int)) from (by omega))) (fun c1 => ?_)
            refine Wc.skip ?_
            refine Wc.seq ?_
            refine Wc.whole (b := (base 3 49)) [0, 1, 4, 5, 9] [(0, (.str (s))), (1, (.bool true)), (4, (.bool false)), (5, (.str ([35] ++ s ++ [120]))), (9, (.bool (decide (100 < (↑(List.length s) : Int)))))] Heap.empty [((1 : Nat) + List.length s ≤ (1099511627776 : Nat)), (List.length ([(35 : UInt8)] ++ s) + (1 : Nat) ≤ (1099511627776 : Nat))] (by kernel_rfl) (.cons (by omega) (.cons (by (simp only [List.length_append, List.length_cons, List.length_nil]; omega)) .nil)) ?_
            refine Wc.seq ?_
            refine Wc.whole (b := (base 3 49)) [0, 1, 4, 5, 6, 9] [(0, (.str (s))), (1, (.bool true)), (4, (.bool false)), (5, (.str ([35] ++ s ++ [120]))), (6, (.str [])), (9, (.bool (decide (100 < (↑(List.length s) : Int)))))] Heap.empty [] (by kernel_rfl) .nil ?_
            refine Wc.seq ?_
            refine Wc.seq ?_
            refine Wc.whole (b := (base 3 49)) [0, 1, 4, 5, 6, 9, 14] [(0, (.str (s))), (1, (.bool true)), (4, (.bool false)), (5, (.str ([35] ++ s ++ [120]))), (6, (.str [])), (9, (.bool (decide (100 < (↑(List.length s) : Int))))), (14, (.bool true))] Heap.empty [] (by kernel_rfl) .nil ?_
            refine Wc.condT (by kernel_rfl) (by kernel_rfl) ?_
            refine Wc.whole (b := (base 3 49)) [0, 1, 4, 5, 6, 9, 14] [(0, (.str (s))), (1, (.bool true)), (4, (.bool false)), (5, (.str ([35] ++ s ++ [120]))), (6, (.str [13])), (9, (.bool (decide (100 < (↑(List.length s) : Int))))), (14, (.bool true))] Heap.empty [] (by kernel_rfl) .nil ?_
            refine Wc.seq ?_
            refine Wc.enter ?_
            refine Wl.batch (b := (base 3 49)) 0 5 [0, 1, 4, 5, 6, 9, 14, 16, 19] [(0, (.str (s))), (1, (.bool true)), (4, (.bool false)), (5, (.str ([35] ++ s ++ [120]))), (6, (.str [13])), (9, (.bool (decide (100 < (↑(List.length s) : Int))))), (14, (.bool true)), (16, (.bool true)), (19, (.str ([35] ++ s ++ [120] ++ [13])))] Heap.empty [(List.length ([(35 : UInt8)] ++ s ++ [(120 : UInt8)]) + (1 : Nat) ≤ (1099511627776 : Nat))] (by kernel_rfl) rfl (.cons (by (simp only [List.length_append, List.length_cons, List.length_nil]; omega)) .nil) ?_
            refine Wl.callP (b := (base 3 49)) (h1 := Heap.empty) (h2 := Heap.empty) (v := (.bool false)) (d := (some 20)) 5 [0, 1, 4, 5, 6, 9, 14, 16, 20] [(0, (.str (s))), (1, (.bool true)), (4, (.bool false)), (5, (.str ([35] ++ s ++ [120]))), (6, (.str [13])), (9, (.bool (decide (100 < (↑(List.length s) : Int))))), (14, (.bool true)), (16, (.bool true)), (20, (.bool false))] (@Go.AM.c0 ([35] ++ s ++ [120]) hl ht) (by kernel_rfl) (by kernel_rfl) (by kernel_rfl) ?_
            refine Wl.batch (b := (base 3 49)) 6 13 [0, 1, 4, 5, 6, 9, 14, 23, 27] [(0, (.str (s))), (1, (.bool true)), (4, (.bool false)), (5, (.str ([35] ++ s ++ [120]))), (6, (.str [13])), (9, (.bool (decide (100 < (↑(List.length s) : Int))))), (14, (.bool true)), (23, (.bool true)), (27, (.str ([35] ++ s ++ [120] ++ [92] ++ [13])))] Heap.empty [(List.length ([(35 : UInt8)] ++ s ++ [(120 : UInt8)]) + (1 : Nat) ≤ (1099511627776 : Nat)), (List.length ([(35 : UInt8)] ++ s ++ [(120 : UInt8)] ++ [(92 : UInt8)]) + (1 : Nat) ≤ (1099511627776 : Nat))] (by kernel_rfl) rfl (.cons (by (simp only [List.length_append, List.length_cons, List.length_nil]; omega)) (.cons (by (simp only [List.length_append, List.length_cons, List.length_nil]; omega)) .nil)) ?_
            refine Wl.callP (b := (base 3 49)) (h1 := Heap.empty) (h2 := Heap.empty) (v := (.bool true)) (d := (some 28)) 13 [0, 1, 4, 5, 6, 9, 14, 23, 28] [(0, (.str (s))), (1, (.bool true)), (4, (.bool false)), (5, (.str ([35] ++ s ++ [120]))), (6, (.str [13])), (9, (.bool (decide (100 < (↑(List.length s) : Int))))), (14, (.bool true)), (23, (.bool true)), (28, (.bool true))] (@Go.AM.c1 ([35] ++ s ++ [120]) hl ht) (by kernel_rfl) (by kernel_rfl) (by kernel_rfl) ?_
            refine Wl.batch (b := (base 3 49)) 14 20 [0, 1, 4, 5, 6, 9, 14, 30, 34] [(0, (.str (s))), (1, (.bool true)), (4, (.bool false)), (5, (.str ([35] ++ s ++ [120]))), (6, (.str [13])), (9, (.bool (decide (100 < (↑(List.length s) : Int))))), (14, (.bool true)), (30, (.bool true)), (34, (.str ([35] ++ s ++ [120] ++ [92, 92] ++ [13])))] Heap.empty [(List.length ([(35 : UInt8)] ++ s ++ [(120 : UInt8)]) + (2 : Nat) ≤ (1099511627776 : Nat)), (List.length ([(35 : UInt8)] ++ s ++ [(120 : UInt8)] ++ [(92 : UInt8), (92 : UInt8)]) + (1 : Nat) ≤ (1099511627776 : Nat))] (by kernel_rfl) rfl (.cons (by (simp only [List.length_append, List.length_cons, List.length_nil]; omega)) (.cons (by (simp only [List.length_append, List.length_cons, List.length_nil]; omega)) .nil)) ?_
            refine Wl.callP (b := (base 3 49)) (h1 := Heap.empty) (h2 := Heap.empty) (v := (.bool false)) (d := (some 35)) 20 [0, 1, 4, 5, 6, 9, 14, 30, 35] [(0, (.str (s))), (1, (.bool true)), (4, (.bool false)), (5, (.str ([35] ++ s ++ [120]))), (6, (.str [13])), (9, (.bool (decide (100 < (↑(List.length s) : Int))))), (14, (.bool true)), (30, (.bool true)), (35, (.bool false))] (@Go.AM.c2 ([35] ++ s ++ [120]) hl ht) (by kernel_rfl) (by kernel_rfl) (by kernel_rfl) ?_
            refine Wl.batch (b := (base 3 49)) 21 28 [0, 1, 4, 5, 6, 9, 14, 38, 42] [(0, (.str (s))), (1, (.bool true)), (4, (.bool false)), (5, (.str ([35] ++ s ++ [120]))), (6, (.str [13])), (9, (.bool (decide (100 < (↑(List.length s) : Int))))), (14, (.bool true)), (38, (.bool true)), (42, (.str ([35] ++ s ++ [120] ++ [92, 92, 92] ++ [13])))] Heap.empty [(List.length ([(35 : UInt8)] ++ s ++ [(120 : UInt8)]) + (3 : Nat) ≤ (1099511627776 : Nat)), (List.length ([(35 : UInt8)] ++ s ++ [(120 : UInt8)] ++ [(92 : UInt8), (92 : UInt8), (92 : UInt8)]) + (1 : Nat) ≤ (1099511627776 : Nat))] (by kernel_rfl) rfl (.cons (by (simp only [List.length_append, List.length_cons, List.length_nil]; omega)) (.cons (by (simp only [List.length_append, List.length_cons, List.length_nil]; omega)) .nil)) ?_
            refine Wl.callP (b := (base 3 49)) (h1 := Heap.empty) (h2 := Heap.empty) (v := (.bool true)) (d := (some 43)) 28 [0, 1, 4, 5, 6, 9, 14, 38, 43] [(0, (.str (s))), (1, (.bool true)), (4, (.bool false)), (5, (.str ([35] ++ s ++ [120]))), (6, (.str [13])), (9, (.bool (decide (100 < (↑(List.length s) : Int))))), (14, (.bool true)), (38, (.bool true)), (43, (.bool true))] (@Go.AM.c3 ([35] ++ s ++ [120]) hl ht) (by kernel_rfl) (by kernel_rfl) (by kernel_rfl) ?_
            refine Wl.batch (b := (base 3 49)) 29 31 [0, 1, 4, 5, 6, 9, 14, 45] [(0, (.str (s))), (1, (.bool true)), (4, (.bool false)), (5, (.str ([35] ++ s ++ [120]))), (6, (.str [13])), (9, (.bool (decide (100 < (↑(List.length s) : Int))))), (14, (.bool true)), (45, (.bool true))] Heap.empty [] (by kernel_rfl) rfl .nil ?_
            refine Wl.callP (b := (base 3 49)) (h1 := Heap.empty) (h2 := Heap.empty) (v := (.bool false)) (d := (some 46)) 31 [0, 1, 4, 5, 6, 9, 14, 45, 46] [(0, (.str (s))), (1, (.bool true)), (4, (.bool false)), (5, (.str ([35] ++ s ++ [120]))), (6, (.str [13])), (9, (.bool (decide (100 < (↑(List.length s) : Int))))), (14, (.bool true)), (45, (.bool true)), (46, (.bool false))] (@Go.AM.n00) (by kernel_rfl) (by kernel_rfl) (by kernel_rfl) ?_
            refine Wl.batch (b := (base 3 49)) 32 35 [0, 1, 4, 5, 6, 9, 14] [(0, (.str (s))), (1, (.bool true)), (4, (.bool true)), (5, (.str ([35] ++ s ++ [120]))), (6, (.str [13])), (9, (.bool (decide (100 < (↑(List.length s) : Int))))), (14, (.bool true))] Heap.empty [] (by kernel_rfl) rfl .nil ?_
            refine Wl.done 35 rfl ?_
            refine Wc.ret ?_
            refine retX.mk (.bool true) ⟨rfl, rfl⟩ (by kernel_rfl) ?_
            kernel_rfl
  | false => refine Wc.seq ?_
             refine Wc.whole (b := (base 3 49)) [0, 1, 4] [(0, (.str (s))), (1, (.bool false)), (4, (.bool false))] Heap.empty [] (by kernel_rfl) .nil ?_
             refine Wc.seq ?_
             refine Wc.seq ?_
             refine Wc.whole (b := (base 3 49)) [0, 1, 4, 9] [(0, (.str (s))), (1, (.bool false)), (4, (.bool false)), (9, (.bool (decide (100 < (↑(List.length s) : Int)))))] Heap.empty [] (by kernel_rfl) .nil ?_
             refine Wc.condP (p := 100 < (↑(List.length s) : Int)) (by kernel_rfl) (by kernel_rfl) (fun c1 => absurd c1 (show ¬ (100 < (↑(List.length s) : Int)) from (by omega))) (fun c1 => ?_)
             refine Wc.skip ?_
             refine Wc.seq ?_
             refine Wc.whole (b := (base 3 49)) [0, 1, 4, 5, 9] [(0, (.str (s))), (1, (.bool false)), (4, (.bool false)), (5, (.str ([35] ++ s ++ [120]))), (9, (.bool (decide (100 < (↑(List.length s) : Int)))))] Heap.empty [((1 : Nat) + List.length s ≤ (1099511627776 : Nat)), (List.length ([(35 : UInt8)] ++ s) + (1 : Nat) ≤ (1099511627776 : Nat))] (by kernel_rfl) (.cons (by omega) (.cons (by (simp only [List.length_append, List.length_cons, List.length_nil]; omega)) .nil)) ?_
             refine Wc.seq ?_
             refine Wc.whole (b := (base 3 49)) [0, 1, 4, 5, 6, 9] [(0, (.str (s))), (1, (.bool false)), (4, (.bool false)), (5, (.str ([35] ++ s ++ [120]))), (6, (.str [])), (9, (.bool (decide (100 < (↑(List.length s) : Int)))))] Heap.empty [] (by kernel_rfl) .nil ?_
             refine Wc.seq ?_
             refine Wc.seq ?_
             refine Wc.whole (b := (base 3 49)) [0, 1, 4, 5, 6, 9, 14] [(0, (.str (s))), (1, (.bool false)), (4, (.bool false)), (5, (.str ([35] ++ s ++ [120]))), (6, (.str [])), (9, (.bool (decide (100 < (↑(List.length s) : Int))))), (14, (.bool false))] Heap.empty [] (by kernel_rfl) .nil ?_
             refine Wc.condF (by kernel_rfl) (by kernel_rfl) ?_
             refine Wc.skip ?_
             refine Wc.seq ?_
             refine Wc.enter ?_
             refine Wl.batch (b := (base 3 49)) 0 5 [0, 1, 4, 5, 6, 9, 14, 16, 19] [(0, (.str (s))), (1, (.bool false)), (4, (.bool false)), (5, (.str ([35] ++ s ++ [120]))), (6, (.str [])), (9, (.bool (decide (100 < (↑(List.length s) : Int))))), (14, (.bool false)), (16, (.bool true)), (19, (.str ([35] ++ s ++ [120] ++ [])))] Heap.empty [(List.length ([(35 : UInt8)] ++ s ++ [(120 : UInt8)]) + (0 : Nat) ≤ (1099511627776 : Nat))] (by kernel_rfl) rfl (.cons (by (simp only [List.length_append, List.length_cons, List.length_nil]; omega)) .nil) ?_
             refine Wl.callP (b := (base 3 49)) (h1 := Heap.empty) (h2 := Heap.empty) (v := (.bool false)) (d := (some 20)) 5 [0, 1, 4, 5, 6, 9, 14, 16, 20] [(0, (.str (s))), (1, (.bool false)), (4, (.bool false)), (5, (.str ([35] ++ s ++ [120]))), (6, (.str [])), (9, (.bool (decide (100 < (↑(List.length s) : Int))))), (14, (.bool false)), (16, (.bool true)), (20, (.bool false))] (@Go.AM.n0 ([35] ++ s ++ [120]) hl ht) (by kernel_rfl) (by kernel_rfl) (by kernel_rfl) ?_
             refine Wl.batch (b := (base 3 49)) 6 13 [0, 1, 4, 5, 6, 9, 14, 23, 27] [(0, (.str (s))), (1, (.bool false)), (4, (.bool false)), (5, (.str ([35] ++ s ++ [120]))), (6, (.str [])), (9, (.bool (decide (100 < (↑(List.length s) : Int))))), (14, (.bool false)), (23, (.bool true)), (27, (.str ([35] ++ s ++ [120] ++ [92] ++ [])))] Heap.empty [(List.length ([(35 : UInt8)] ++ s ++ [(120 : UInt8)]) + (1 : Nat) ≤ (1099511627776 : Nat)), (List.length ([(35 : UInt8)] ++ s ++ [(120 : UInt8)] ++ [(92 : UInt8)]) + (0 : Nat) ≤ (1099511627776 : Nat))] (by kernel_rfl) rfl (.cons (by (simp only [List.length_append, List.length_cons, List.length_nil]; omega)) (.cons (by (simp only [List.length_append, List.length_cons, List.length_nil]; omega)) .nil)) ?_
             refine Wl.callP (b := (base 3 49)) (h1 := Heap.empty) (h2 := Heap.empty) (v := (.bool true)) (d := (some 28)) 13 [0, 1, 4, 5, 6, 9, 14, 23, 28] [(0, (.str (s))), (1, (.bool false)), (4, (.bool false)), (5, (.str ([35] ++ s ++ [120]))), (6, (.str [])), (9, (.bool (decide (100 < (↑(List.length s) : Int))))), (14, (.bool false)), (23, (.bool true)), (28, (.bool true))] (@Go.AM.n1 ([35] ++ s ++ [120]) hl ht) (by kernel_rfl) (by kernel_rfl) (by kernel_rfl) ?_
             refine Wl.batch (b := (base 3 49)) 14 20 [0, 1, 4, 5, 6, 9, 14, 30, 34] [(0, (.str (s))), (1, (.bool false)), (4, (.bool false)), (5, (.str ([35] ++ s ++ [120]))), (6, (.str [])), (9, (.bool (decide (100 < (↑(List.length s) : Int))))), (14, (.bool false)), (30, (.bool true)), (34, (.str ([35] ++ s ++ [120] ++ [92, 92] ++ [])))] Heap.empty [(List.length ([(35 : UInt8)] ++ s ++ [(120 : UInt8)]) + (2 : Nat) ≤ (1099511627776 : Nat)), (List.length ([(35 : UInt8)] ++ s ++ [(120 : UInt8)] ++ [(92 : UInt8), (92 : UInt8)]) + (0 : Nat) ≤ (1099511627776 : Nat))] (by kernel_rfl) rfl (.cons (by (simp only [List.length_append, List.length_cons, List.length_nil]; omega)) (.cons (by (simp only [List.length_append, List.length_cons, List.length_nil]; omega)) .nil)) ?_
             refine Wl.callP (b := (base 3 49)) (h1 := Heap.empty) (h2 := Heap.empty) (v := (.bool false)) (d := (some 35)) 20 [0, 1, 4, 5, 6, 9, 14, 30, 35] [(0, (.str (s))), (1, (.bool false)), (4, (.bool false)), (5, (.str ([35] ++ s ++ [120]))), (6, (.str [])), (9, (.bool (decide (100 < (↑(List.length s) : Int))))), (14, (.bool false)), (30, (.bool true)), (35, (.bool false))] (@Go.AM.n2 ([35] ++ s ++ [120]) hl ht) (by kernel_rfl) (by kernel_rfl) (by kernel_rfl) ?_
             refine Wl.batch (b := (base 3 49)) 21 28 [0, 1, 4, 5, 6, 9, 14, 38, 42] [(0, (.str (s))), (1, (.bool false)), (4, (.bool false)), (5, (.str ([35] ++ s ++ [120]))), (6, (.str [])), (9, (.bool (decide (100 < (↑(List.length s) : Int))))), (14, (.bool false)), (38, (.bool true)), (42, (.str ([35] ++ s ++ [120] ++ [92, 92, 92] ++ [])))] Heap.empty [(List.length ([(35 : UInt8)] ++ s ++ [(120 : UInt8)]) + (3 : Nat) ≤ (1099511627776 : Nat)), (List.length ([(35 : UInt8)] ++ s ++ [(120 : UInt8)] ++ [(92 : UInt8), (92 : UInt8), (92 : UInt8)]) + (0 : Nat) ≤ (1099511627776 : Nat))] (by kernel_rfl) rfl (.cons (by (simp only [List.length_append, List.length_cons, List.length_nil]; omega)) (.cons (by (simp only [List.length_append, List.length_cons, List.length_nil]; omega)) .nil)) ?_
             refine Wl.callP (b := (base 3 49)) (h1 := Heap.empty) (h2 := Heap.empty) (v := (.bool true)) (d := (some 43)) 28 [0, 1, 4, 5, 6, 9, 14, 38, 43] [(0, (.str (s))), (1, (.bool false)), (4, (.bool false)), (5, (.str ([35] ++ s ++ [120]))), (6, (.str [])), (9, (.bool (decide (100 < (↑(List.length s) : Int))))), (14, (.bool false)), (38, (.bool true)), (43, (.bool true))] (@Go.AM.n3 ([35] ++ s ++ [120]) hl ht) (by kernel_rfl) (by kernel_rfl) (by kernel_rfl) ?_
             refine Wl.batch (b := (base 3 49)) 29 31 [0, 1, 4, 5, 6, 9, 14, 45] [(0, (.str (s))), (1, (.bool false)), (4, (.bool false)), (5, (.str ([35] ++ s ++ [120]))), (6, (.str [])), (9, (.bool (decide (100 < (↑(List.length s) : Int))))), (14, (.bool false)), (45, (.bool true))] Heap.empty [] (by kernel_rfl) rfl .nil ?_
             refine Wl.callP (b := (base 3 49)) (h1 := Heap.empty) (h2 := Heap.empty) (v := (.bool false)) (d := (some 46)) 31 [0, 1, 4, 5, 6, 9, 14, 45, 46] [(0, (.str (s))), (1, (.bool false)), (4, (.bool false)), (5, (.str ([35] ++ s ++ [120]))), (6, (.str [])), (9, (.bool (decide (100 < (↑(List.length s) : Int))))), (14, (.bool false)), (45, (.bool true)), (46, (.bool false))] (@Go.AM.n00) (by kernel_rfl) (by kernel_rfl) (by kernel_rfl) ?_
             refine Wl.batch (b := (base 3 49)) 32 35 [0, 1, 4, 5, 6, 9, 14] [(0, (.str (s))), (1, (.bool false)), (4, (.bool true)), (5, (.str ([35] ++ s ++ [120]))), (6, (.str [])), (9, (.bool (decide (100 < (↑(List.length s) : Int))))), (14, (.bool false))] Heap.empty [] (by kernel_rfl) rfl .nil ?_
             refine Wl.done 35 rfl ?_
             refine Wc.ret ?_
             refine retX.mk (.bool true) ⟨rfl, rfl⟩ (by kernel_rfl) ?_
             kernel_rfl
theorem tidyLoose_walk (s : List UInt8) (hs : s.length ≤ 9223372036854775807) (cr : Bool) : Cx Tryz.prog EU 3 [.str s, .bool cr] Heap.empty (fun v _ => v = .bool true) := loose_law s cr hs

end Go.AM
