/-
  LINES, PLACES AND RUNES OF A TEXT, AS LISTS OF BYTES: plain laws, with no program in sight. No condition.
-/
import Derived.Test.YtmgoingbogepoaaDoorAmSyRow
namespace Go.AM

/-- A text's lines. -/
def linesOf : List UInt8 → List (List UInt8)
  | [] => [[]]
  | c :: s => if c = 10 then [] :: linesOf s else match linesOf s with
    | l :: ls => (c :: l) :: ls
    | [] => [[c]]
theorem linesOf_ne (s : List UInt8) : linesOf s ≠ [] := by
  cases s with
  | nil => simp [linesOf]
  | cons c s => unfold linesOf; split <;> (try split) <;> simp
theorem linesOf_pos (s : List UInt8) : 0 < (linesOf s).length := List.length_pos_iff.2 (linesOf_ne s)
theorem linesOf_feed (s : List UInt8) : linesOf (10 :: s) = [] :: linesOf s := by simp [linesOf]
theorem linesOf_cons {c : UInt8} {s l : List UInt8} {ls : List (List UInt8)} (h : c ≠ 10) (e : linesOf s = l :: ls) : linesOf (c :: s) = (c :: l) :: ls := by
  rw [linesOf, if_neg h, e]
theorem linesOf_ex (s : List UInt8) : ∃ l ls, linesOf s = l :: ls := by
  cases h : linesOf s with
  | nil => exact absurd h (linesOf_ne s)
  | cons l ls => exact ⟨l, ls, rfl⟩
theorem linesOf_length (s : List UInt8) : (linesOf s).length = s.count 10 + 1 := by
  induction s with
  | nil => rfl
  | cons c s IH =>
    by_cases h : c = 10
    · rw [h, linesOf_feed]; simp [IH]
    · obtain ⟨l, ls, e⟩ := linesOf_ex s
      rw [linesOf_cons h e, List.count_cons_of_ne h]
      rw [e] at IH; simpa using IH
theorem linesOf_le (s : List UInt8) : ∀ l ∈ linesOf s, l.length ≤ s.length := by
  induction s with
  | nil => simp [linesOf]
  | cons c s IH =>
    by_cases h : c = 10
    · rw [h, linesOf_feed]; intro l hl
      rcases List.mem_cons.1 hl with rfl | hl
      · simp
      · have := IH l hl; simp; omega
    · obtain ⟨l, ls, e⟩ := linesOf_ex s
      rw [linesOf_cons h e]
      rw [e] at IH
      intro x hx
      rcases List.mem_cons.1 hx with rfl | hx
      · have := IH l (by simp); simp; omega
      · have := IH x (by simp [hx]); simp; omega
theorem linesOf_none (s : List UInt8) : ∀ l ∈ linesOf s, (10 : UInt8) ∉ l := by
  induction s with
  | nil => simp [linesOf]
  | cons c s IH =>
    by_cases h : c = 10
    · rw [h, linesOf_feed]; simpa using IH
    · obtain ⟨l, ls, e⟩ := linesOf_ex s
      rw [linesOf_cons h e]
      rw [e] at IH
      intro x hx
      rcases List.mem_cons.1 hx with rfl | hx
      · intro h2
        rcases List.mem_cons.1 h2 with h3 | h3
        · exact h h3.symm
        · exact IH l (by simp) h3
      · exact IH x (by simp [hx])
/-- A line, and what stands behind its feed. -/
theorem linesOf_app (a s : List UInt8) (h : (10 : UInt8) ∉ a) : linesOf (a ++ 10 :: s) = a :: linesOf s := by
  induction a with
  | nil => exact linesOf_feed s
  | cons c a IH =>
    simp only [List.mem_cons, not_or] at h
    rw [List.cons_append, linesOf_cons (fun e => h.1 e.symm) (IH h.2)]
theorem linesOf_one (a : List UInt8) (h : (10 : UInt8) ∉ a) : linesOf a = [a] := by
  induction a with
  | nil => rfl
  | cons c a IH =>
    simp only [List.mem_cons, not_or] at h
    rw [linesOf_cons (fun e => h.1 e.symm) (IH h.2)]

/-- How many bytes stand behind the last feed. -/
def lastFrom : Nat → List UInt8 → Nat
  | k, [] => k
  | k, b :: l => if b = 10 then lastFrom 0 l else lastFrom (k + 1) l
def lastLen (l : List UInt8) : Nat := lastFrom 0 l
theorem lastFrom_snoc (l : List UInt8) (b : UInt8) : ∀ k, lastFrom k (l ++ [b]) = if b = 10 then 0 else lastFrom k l + 1 := by
  induction l with
  | nil => intro k; simp [lastFrom]
  | cons a l IH => intro k; simp only [List.cons_append, lastFrom]; split <;> exact IH _
theorem lastLen_snoc (l : List UInt8) (b : UInt8) : lastLen (l ++ [b]) = if b = 10 then 0 else lastLen l + 1 := lastFrom_snoc l b 0
theorem lastFrom_no (l : List UInt8) (h : (10 : UInt8) ∉ l) : ∀ k, lastFrom k l = k + l.length := by
  induction l with
  | nil => intro k; rfl
  | cons a l IH =>
    intro k
    simp only [List.mem_cons, not_or] at h
    rw [lastFrom, if_neg (fun e => h.1 e.symm), IH h.2]; simp; omega
theorem lastFrom_mem (l : List UInt8) (h : (10 : UInt8) ∈ l) : ∀ j k, lastFrom j l = lastFrom k l := by
  induction l with
  | nil => cases h
  | cons a l IH =>
    intro j k
    simp only [lastFrom]
    by_cases ha : a = 10
    · rw [if_pos ha, if_pos ha]
    · rw [if_neg ha, if_neg ha]
      exact IH (by
        rcases List.mem_cons.1 h with e | e
        · exact absurd e.symm ha
        · exact e) _ _
theorem lastLen_le (l : List UInt8) : lastLen l ≤ l.length := by
  have : ∀ k, lastFrom k l ≤ k + l.length := by
    induction l with
    | nil => intro k; exact Nat.le_refl _
    | cons a l IH =>
      intro k
      simp only [lastFrom, List.length_cons]
      split
      · have := IH 0; omega
      · have := IH (k + 1); omega
  have := this 0
  unfold lastLen; omega
/-- The last place of a byte; below 0: none. -/
def lastB (c : UInt8) : List UInt8 → Int
  | [] => -1
  | b :: l => if 0 ≤ lastB c l then lastB c l + 1 else if b = c then 0 else -1
theorem lastB_ge (c : UInt8) (l : List UInt8) : -1 ≤ lastB c l ∧ lastB c l < l.length := by
  induction l with
  | nil => simp [lastB]
  | cons b l IH =>
    simp only [lastB, List.length_cons]
    split
    · omega
    · split <;> omega
theorem lastB_snoc (c b : UInt8) (l : List UInt8) : lastB c (l ++ [b]) = if b = c then (l.length : Int) else lastB c l := by
  induction l with
  | nil => simp [lastB]
  | cons a l IH =>
    simp only [List.cons_append, lastB, IH]
    by_cases hb : b = c
    · simp only [if_pos hb]
      rw [if_pos (by omega)]; simp
    · simp only [if_neg hb]
theorem lastB_len (s : List UInt8) (n : Nat) : n ≤ s.length → (n : Int) - 1 - lastB 10 (s.take n) = lastLen (s.take n) := by
  induction n with
  | zero => intro _; rfl
  | succ n IH =>
    intro h
    have h' : n < s.length := h
    rw [List.take_succ_eq_append_getElem h', lastB_snoc, lastLen_snoc]
    have := IH (by omega)
    by_cases hb : s[n] = 10
    · rw [if_pos hb, if_pos hb]; simp; omega
    · rw [if_neg hb, if_neg hb]; omega

/-- Where a line begins. -/
def offL : List (List UInt8) → Nat → Nat
  | _, 0 => 0
  | [], _ + 1 => 0
  | l :: ls, k + 1 => l.length + 1 + offL ls k
theorem offL_zero (ls : List (List UInt8)) : offL ls 0 = 0 := by cases ls <;> rfl
theorem offL_succ (ls : List (List UInt8)) : ∀ k, k < ls.length → offL ls (k + 1) = offL ls k + (ls.getD k []).length + 1 := by
  induction ls with
  | nil => intro k h; cases h
  | cons l ls IH =>
    intro k h
    cases k with
    | zero => simp [offL, offL_zero]
    | succ k =>
      have := IH k (by simpa using h)
      simp only [offL, List.getD_cons_succ] at *
      omega
theorem place_back (s : List UInt8) : ∀ p, p ≤ s.length → (s.take p).count 10 < (linesOf s).length ∧ lastLen (s.take p) ≤ ((linesOf s).getD ((s.take p).count 10) []).length ∧ offL (linesOf s) ((s.take p).count 10) + lastLen (s.take p) = p := by
  induction s with
  | nil => intro p hp; have : p = 0 := by simpa using hp
           subst this; simp [linesOf, lastLen, lastFrom, offL]
  | cons c s IH =>
    intro p hp
    cases p with
    | zero => simp [lastLen, lastFrom, offL_zero, linesOf_pos]
    | succ p =>
      obtain ⟨h1, h2, h3⟩ := IH p (by simpa using hp)
      rw [List.take_succ_cons]
      by_cases h : c = 10
      · subst h
        rw [linesOf_feed, List.count_cons_self]
        have e : lastLen (10 :: s.take p) = lastLen (s.take p) := by simp [lastLen, lastFrom]
        rw [e]
        simp only [List.length_cons, List.getD_cons_succ, offL, List.length_nil]
        exact ⟨by omega, h2, by omega⟩
      · obtain ⟨l, ls, e⟩ := linesOf_ex s
        rw [linesOf_cons h e, List.count_cons_of_ne h]
        rw [e] at h1 h2 h3
        have e2 : lastLen (c :: s.take p) = lastFrom 1 (s.take p) := by simp [lastLen, lastFrom, h]
        by_cases hm : (10 : UInt8) ∈ s.take p
        · have e3 : lastLen (c :: s.take p) = lastLen (s.take p) := e2.trans (lastFrom_mem _ hm 1 0)
          rw [e3]
          obtain ⟨k, hk⟩ : ∃ k, (s.take p).count 10 = k + 1 := ⟨(s.take p).count 10 - 1, by have := List.count_pos_iff.2 hm; omega⟩
          rw [hk] at h1 h2 h3 ⊢
          simp only [List.length_cons, List.getD_cons_succ, offL] at *
          exact ⟨by omega, h2, by omega⟩
        · have hk : (s.take p).count 10 = 0 := List.count_eq_zero.2 hm
          have e3 : lastLen (c :: s.take p) = lastLen (s.take p) + 1 := by
            rw [e2, lastFrom_no _ hm]; unfold lastLen; rw [lastFrom_no _ hm]; omega
          rw [hk] at h1 h2 h3
          rw [e3, hk]
          simp only [List.length_cons, List.getD_cons_zero, offL_zero] at h1 h2 h3 ⊢
          exact ⟨by omega, by omega, by omega⟩
theorem line_end (s : List UInt8) : ∀ i, i < (linesOf s).length → offL (linesOf s) i + ((linesOf s).getD i []).length ≤ s.length ∧ (offL (linesOf s) i + ((linesOf s).getD i []).length = s.length ∨ s.getD (offL (linesOf s) i + ((linesOf s).getD i []).length) 0 = 10) := by
  induction s with
  | nil => intro i hi; have : i = 0 := by simp [linesOf] at hi; exact hi
           subst this; simp [linesOf, offL]
  | cons c s IH =>
    intro i hi
    by_cases h : c = 10
    · subst h
      rw [linesOf_feed] at hi ⊢
      cases i with
      | zero => simp [offL]
      | succ k =>
        obtain ⟨h1, h2⟩ := IH k (by simpa using hi)
        simp only [List.length_cons, List.getD_cons_succ, offL, List.length_nil, Nat.zero_add]
        rw [show 1 + offL (linesOf s) k + ((linesOf s).getD k []).length = (offL (linesOf s) k + ((linesOf s).getD k []).length) + 1 by omega, List.getD_cons_succ]
        exact ⟨by omega, h2.imp (by omega) id⟩
    · obtain ⟨l, ls, e⟩ := linesOf_ex s
      rw [linesOf_cons h e] at hi ⊢
      rw [e] at IH
      cases i with
      | zero =>
        obtain ⟨h1, h2⟩ := IH 0 (by simp)
        simp only [List.length_cons, List.getD_cons_zero, offL_zero, Nat.zero_add] at *
        rw [List.getD_cons_succ]
        exact ⟨by omega, h2.imp (by omega) id⟩
      | succ k =>
        obtain ⟨h1, h2⟩ := IH (k + 1) (by simpa using hi)
        simp only [List.length_cons, List.getD_cons_succ, offL] at *
        rw [show l.length + 1 + 1 + offL ls k + (ls.getD k []).length = (l.length + 1 + offL ls k + (ls.getD k []).length) + 1 by omega, List.getD_cons_succ]
        exact ⟨by omega, h2.imp (by omega) id⟩
theorem offL_le (s : List UInt8) (i : Nat) (hi : i < (linesOf s).length) : offL (linesOf s) i ≤ s.length := by
  have := (line_end s i hi).1; omega

/-- Lines, with feeds between. -/
def joinL : List (List UInt8) → List UInt8
  | [] => []
  | l :: ls => match ls with
    | [] => l
    | _ :: _ => l ++ 10 :: joinL ls
theorem joinL_cons {ls : List (List UInt8)} (l : List UInt8) (h : ls ≠ []) : joinL (l :: ls) = l ++ 10 :: joinL ls := by
  cases ls with
  | nil => exact absurd rfl h
  | cons a ls => rfl
theorem joinL_snoc (ls : List (List UInt8)) (l : List UInt8) (h : ls ≠ []) : joinL (ls ++ [l]) = joinL ls ++ 10 :: l := by
  induction ls with
  | nil => exact absurd rfl h
  | cons a ls IH =>
    rw [List.cons_append, joinL_cons a (by simp)]
    by_cases hl : ls = []
    · subst hl; rfl
    · rw [IH hl, joinL_cons a hl]; simp
theorem join_lines (s : List UInt8) : joinL (linesOf s) = s := by
  induction s with
  | nil => rfl
  | cons c s IH =>
    by_cases h : c = 10
    · subst h
      rw [linesOf_feed, joinL_cons _ (linesOf_ne s), IH]; rfl
    · obtain ⟨l, ls, e⟩ := linesOf_ex s
      rw [linesOf_cons h e]
      rw [e] at IH
      rw [← IH]
      cases ls with
      | nil => rfl
      | cons a ls => rfl

/-- How often a byte stands in a text; where it stands first. -/
theorem count_eq (c : UInt8) (s : List UInt8) : countByte c s = s.count c := by rw [countByte_eq]; rfl
theorem find_none (s : List UInt8) (h : (10 : UInt8) ∉ s) : ∀ i, findByte 10 s i = -1 := by
  induction s with
  | nil => intro i; rfl
  | cons b s IH =>
    intro i
    simp only [List.mem_cons, not_or] at h
    change (bif byteEq b 10 then Int.ofNat i else findByte 10 s (Nat.succ i)) = -1
    rw [byteEq_eq, beq_eq_false_iff_ne.2 (fun e => h.1 e.symm)]
    exact IH h.2 _
theorem find_some (s : List UInt8) (h : (10 : UInt8) ∈ s) : ∃ a t, s = a ++ 10 :: t ∧ (10 : UInt8) ∉ a ∧ ∀ i, findByte 10 s i = ((a.length + i : Nat) : Int) := by
  induction s with
  | nil => cases h
  | cons b s IH =>
    by_cases hb : b = 10
    · subst hb
      exact ⟨[], s, rfl, by simp, fun i => by
        change (bif byteEq 10 10 then Int.ofNat i else findByte 10 s (Nat.succ i)) = _
        rw [byteEq_eq]; simp⟩
    · obtain ⟨a, t, e, hn, hf⟩ := IH (by
        rcases List.mem_cons.1 h with q | q
        · exact absurd q.symm hb
        · exact q)
      refine ⟨b :: a, t, by rw [e]; rfl, by simp only [List.mem_cons, not_or]; exact ⟨fun q => hb q.symm, hn⟩, fun i => ?_⟩
      change (bif byteEq b 10 then Int.ofNat i else findByte 10 s (Nat.succ i)) = _
      rw [byteEq_eq, beq_eq_false_iff_ne.2 hb, hf]
      simp only [cond_false, List.length_cons]; omega

theorem byteAt_ten {s : List UInt8} {k : Nat} (hk : k < s.length) : byteAt s (k : Int) = 10 ↔ s[k] = 10 := by
  unfold byteAt
  rw [Int.toNat_natCast, List.getD_eq_getElem?_getD, List.getElem?_eq_getElem hk, Option.getD_some]
  constructor
  · intro h; exact UInt8.toNat_inj.1 (show s[k].toNat = 10 by omega)
  · intro h; rw [h]; rfl
theorem lastB_found {s : List UInt8} {k : Nat} (h0 : 0 < k) (hk : k ≤ s.length) (c : byteAt s ((k : Int) - 1) = 10) : lastB 10 (s.take k) = (k : Int) - 1 := by
  obtain ⟨j, rfl⟩ : ∃ j, k = j + 1 := ⟨k - 1, by omega⟩
  rw [show ((j + 1 : Nat) : Int) - 1 = (j : Int) by omega] at c ⊢
  rw [List.take_succ_eq_append_getElem (show j < s.length from hk), lastB_snoc, if_pos ((byteAt_ten hk).1 c), List.length_take, Nat.min_eq_left (by omega)]
theorem lastB_not {s : List UInt8} {k : Nat} (h0 : 0 < k) (hk : k ≤ s.length) (c : ¬ byteAt s ((k : Int) - 1) = 10) : lastB 10 (s.take k) = lastB 10 (s.take (k - 1)) := by
  obtain ⟨j, rfl⟩ : ∃ j, k = j + 1 := ⟨k - 1, by omega⟩
  rw [show ((j + 1 : Nat) : Int) - 1 = (j : Int) by omega] at c
  rw [List.take_succ_eq_append_getElem (show j < s.length from hk), lastB_snoc, if_neg (fun e => c ((byteAt_ten hk).2 e))]
  rfl
theorem count_take {s : List UInt8} {k : Nat} (hk : k < s.length) : (s.take (k + 1)).count 10 = (s.take k).count 10 + if byteAt s (k : Int) = 10 then 1 else 0 := by
  rw [List.take_succ_eq_append_getElem hk, List.count_append, List.count_singleton]
  by_cases h : s[k] = 10
  · rw [if_pos ((byteAt_ten hk).2 h), h]; rfl
  · rw [if_neg (fun e => h ((byteAt_ten hk).1 e)), if_neg (by simpa using h)]
theorem last_take {s : List UInt8} {k : Nat} (hk : k < s.length) : lastLen (s.take (k + 1)) = if byteAt s (k : Int) = 10 then 0 else lastLen (s.take k) + 1 := by
  rw [List.take_succ_eq_append_getElem hk, lastLen_snoc]
  by_cases h : s[k] = 10
  · rw [if_pos ((byteAt_ten hk).2 h), if_pos h]
  · rw [if_neg (fun e => h ((byteAt_ten hk).1 e)), if_neg h]

/-- The line and the column of a place; what they are where there is none. -/
def placeOk (s : List UInt8) (p : Int) : Prop := 0 ≤ p ∧ p ≤ s.length
instance (s : List UInt8) (p : Int) : Decidable (placeOk s p) := inferInstanceAs (Decidable (_ ∧ _))
def placeL (s : List UInt8) (p : Int) : Int := if placeOk s p then (((s.take p.toNat).count 10 : Nat) : Int) else 0
def placeC (s : List UInt8) (p : Int) : Int := if placeOk s p then ((lastLen (s.take p.toNat) : Nat) : Int) else 0
/-- The place of a line and a column. -/
def offOk (s : List UInt8) (l c : Int) : Prop := 0 ≤ l ∧ 0 ≤ c ∧ l < (linesOf s).length ∧ c ≤ ((linesOf s).getD l.toNat []).length
instance (s : List UInt8) (l c : Int) : Decidable (offOk s l c) := inferInstanceAs (Decidable (_ ∧ _ ∧ _ ∧ _))
def offN (s : List UInt8) (l c : Int) : Int := if offOk s l c then (offL (linesOf s) l.toNat : Int) + c else 0
theorem placeL_le (s : List UInt8) (p : Int) : 0 ≤ placeL s p ∧ placeL s p ≤ s.length := by
  unfold placeL
  split
  · have := List.count_le_length (a := (10 : UInt8)) (l := s.take p.toNat)
    rw [List.length_take] at this
    omega
  · omega
theorem placeC_le (s : List UInt8) (p : Int) : 0 ≤ placeC s p ∧ placeC s p ≤ s.length := by
  unfold placeC
  split
  · have := lastLen_le (s.take p.toNat)
    rw [List.length_take] at this
    omega
  · omega
theorem offN_le (s : List UInt8) (l c : Int) : 0 ≤ offN s l c ∧ offN s l c ≤ s.length := by
  unfold offN
  split
  · rename_i h
    obtain ⟨h1, h2, h3, h4⟩ := h
    have := (line_end s l.toNat (by omega)).1
    omega
  · omega

theorem find_le (s : List UInt8) : -1 ≤ findByte 10 s 0 ∧ findByte 10 s 0 < s.length := by
  by_cases h : (10 : UInt8) ∈ s
  · obtain ⟨a, t, e, _, hf⟩ := find_some s h
    rw [hf, e]; simp; omega
  · rw [find_none s h]; omega
theorem lines_end (s : List UInt8) (h : findByte 10 s 0 < 0) : linesOf s = [s] := by
  refine linesOf_one s fun hm => ?_
  obtain ⟨a, t, e, _, hf⟩ := find_some s hm
  rw [hf] at h; omega
theorem lines_next (s : List UInt8) (h : ¬ findByte 10 s 0 < 0) : linesOf s = s.take (findByte 10 s 0 + 0).toNat :: linesOf (s.drop (findByte 10 s 0 + 1).toNat) := by
  by_cases hm : (10 : UInt8) ∈ s
  · obtain ⟨a, t, e, hn, hf⟩ := find_some s hm
    have h1 : (findByte 10 s 0 + 0).toNat = a.length := by rw [hf]; omega
    have h2 : (findByte 10 s 0 + 1).toNat = a.length + 1 := by rw [hf]; omega
    rw [h1, h2, e, List.take_left, linesOf_app a t hn]
    have : (a ++ 10 :: t).drop (a.length + 1) = t := by
      rw [show a ++ (10 : UInt8) :: t = (a ++ [10]) ++ t by simp]
      exact List.drop_left' (by simp)
    rw [this]
  · rw [find_none s hm] at h; omega

/-- A place is found by its line and column. -/
theorem place_found {s : List UInt8} {p : Int} (h : placeOk s p) : offOk s (placeL s p) (placeC s p) ∧ offN s (placeL s p) (placeC s p) = p := by
  have h' := h
  obtain ⟨h0, h1⟩ := h'
  obtain ⟨a, b, c⟩ := place_back s p.toNat (by omega)
  have hL : placeL s p = (((s.take p.toNat).count 10 : Nat) : Int) := by unfold placeL; rw [if_pos h]
  have hC : placeC s p = ((lastLen (s.take p.toNat) : Nat) : Int) := by unfold placeC; rw [if_pos h]
  have hk : offOk s (placeL s p) (placeC s p) := by
    unfold offOk
    rw [hL, hC, Int.toNat_natCast]
    omega
  refine ⟨hk, ?_⟩
  unfold offN
  rw [if_pos hk, hL, hC, Int.toNat_natCast]
  omega
/-- The place behind a place. -/
theorem place_next {s : List UInt8} {p : Int} (h : placeOk s p) : ¬ placeOk s (p + 1) ∨ (placeOk s (p + 1) ∧ placeL s (p + 1) = placeL s p ∧ placeC s (p + 1) = placeC s p + 1) ∨ (placeOk s (p + 1) ∧ ¬ placeL s (p + 1) = placeL s p ∧ placeL s (p + 1) = placeL s p + 1 ∧ placeC s (p + 1) = 0) := by
  by_cases h' : placeOk s (p + 1)
  · refine .inr ?_
    obtain ⟨h0, h1⟩ := h
    have h1' := h'.2
    have e : (p + 1).toNat = p.toNat + 1 := by omega
    have hlt : p.toNat < s.length := by omega
    have hL : placeL s p = (((s.take p.toNat).count 10 : Nat) : Int) := by unfold placeL; rw [if_pos ⟨h0, h1⟩]
    have hC : placeC s p = ((lastLen (s.take p.toNat) : Nat) : Int) := by unfold placeC; rw [if_pos ⟨h0, h1⟩]
    have hL' : placeL s (p + 1) = (((s.take (p.toNat + 1)).count 10 : Nat) : Int) := by unfold placeL; rw [if_pos h', e]
    have hC' : placeC s (p + 1) = ((lastLen (s.take (p.toNat + 1)) : Nat) : Int) := by unfold placeC; rw [if_pos h', e]
    rw [count_take hlt] at hL'
    rw [last_take hlt] at hC'
    rw [hL, hC, hL', hC']
    by_cases hb : byteAt s (p.toNat : Int) = 10
    · rw [if_pos hb, if_pos hb]
      exact .inr ⟨h', by omega, by omega, rfl⟩
    · rw [if_neg hb, if_neg hb]
      exact .inl ⟨h', by omega, by omega⟩
  · exact .inl h'

/-- Columns of a line, and what is none. -/
theorem cols_facts (s : List UInt8) (i : Int) (M : Nat) (h0 : 0 ≤ i) (h1 : i < (linesOf s).length) :
    (((linesOf s).getD i.toNat []).length ≤ s.length) ∧ offOk s i (((linesOf s).getD i.toNat []).length : Int) ∧
    (offN s i (((linesOf s).getD i.toNat []).length : Int) = s.length ∨ (¬ offN s i (((linesOf s).getD i.toNat []).length : Int) = s.length ∧ byteAt s (offN s i (((linesOf s).getD i.toNat []).length : Int)) = 10)) ∧
    (0 ≤ offN s i (((linesOf s).getD i.toNat []).length : Int) ∧ offN s i (((linesOf s).getD i.toNat []).length : Int) ≤ s.length) ∧
    ¬ offOk s i ((((linesOf s).getD i.toNat []).length : Int) + 1 + M) ∧ ¬ offOk s (((linesOf s).length : Int) + M) 0 ∧ ¬ offOk s i (-1 - M) := by
  have hi : i.toNat < (linesOf s).length := by omega
  have e := line_end s i.toNat hi
  have hk : offOk s i (((linesOf s).getD i.toNat []).length : Int) := ⟨h0, by omega, h1, Int.le_refl _⟩
  have hN : offN s i (((linesOf s).getD i.toNat []).length : Int) = ((offL (linesOf s) i.toNat + ((linesOf s).getD i.toNat []).length : Nat) : Int) := by
    unfold offN
    rw [if_pos hk]; omega
  refine ⟨by omega, hk, ?_, offN_le s _ _, fun h => by have := h.2.2.2; omega, fun h => by have := h.2.2.1; omega, fun h => by have := h.2.1; omega⟩
  rw [hN]
  rcases Nat.lt_or_ge (offL (linesOf s) i.toNat + ((linesOf s).getD i.toNat []).length) s.length with h | h
  · refine .inr ⟨by omega, ?_⟩
    rw [byteAt_ten h]
    rcases e.2 with q | q
    · omega
    · rw [List.getD_eq_getElem?_getD, List.getElem?_eq_getElem h] at q
      exact q
  · exact .inl (by omega)

theorem line_byte (s : List UInt8) {j k : Nat} (hj : j < (linesOf s).length) (hk : k < ((linesOf s).getD j []).length) : ¬ byteAt ((linesOf s).getD j []) (k : Int) = 10 := by
  intro h
  have hm : (linesOf s).getD j [] ∈ linesOf s := by
    rw [List.getD_eq_getElem?_getD, List.getElem?_eq_getElem hj]
    exact List.getElem_mem hj
  refine linesOf_none s _ hm ?_
  rw [← (byteAt_ten hk).1 h]
  exact List.getElem_mem hk
theorem line_le (s : List UInt8) (j : Nat) : ((linesOf s).getD j []).length ≤ s.length := by
  rw [List.getD_eq_getElem?_getD]
  cases h : (linesOf s)[j]? with
  | none => exact Nat.zero_le _
  | some l => exact linesOf_le s l (List.mem_of_getElem? h)
theorem joinL_take_le (ls : List (List UInt8)) : ∀ i, (joinL (ls.take i)).length ≤ (joinL ls).length := by
  induction ls with
  | nil => intro i; simp
  | cons l ls IH =>
    intro i
    cases i with
    | zero => simp [joinL]
    | succ k =>
      rw [List.take_succ_cons]
      by_cases h : ls = []
      · subst h; simp
      · rw [joinL_cons l h]
        by_cases h2 : ls.take k = []
        · rw [h2]; simp [joinL]
        · rw [joinL_cons l h2]
          have := IH k
          simp; omega
theorem joinL_first (ls : List (List UInt8)) (h : 0 < ls.length) : joinL (ls.take 1) = ls.getD 0 [] := by
  cases ls with
  | nil => cases h
  | cons l ls => rfl
theorem joinL_next (ls : List (List UInt8)) {i : Nat} (h0 : 0 < i) (h : i < ls.length) : joinL (ls.take (i + 1)) = joinL (ls.take i) ++ [10] ++ ls.getD i [] := by
  have e : ls.take (i + 1) = ls.take i ++ [ls.getD i []] := by
    rw [List.take_succ_eq_append_getElem h, List.getD_eq_getElem?_getD, List.getElem?_eq_getElem h]; rfl
  rw [e, joinL_snoc]
  · simp
  · intro q
    have := congrArg List.length q
    rw [List.length_take, Nat.min_eq_left (by omega), List.length_nil] at this
    omega


/-- What a text begins with: its rune, and how many bytes that has. -/
def dec (s : List UInt8) : Nat × Nat := Utf8.decode ⟨⟨s⟩⟩ 0
/-- The same, of four bytes, and which of them are there. -/
def decG (b0 b1 b2 b3 : Nat) (c1 c2 c3 : Bool) : Nat × Nat :=
  if b0 < 0x80 then (b0, 1)
  else if b0 / 32 == 6 && (c1 && b1 / 64 == 2) then
    if b0 % 32 * 64 + b1 % 64 ≥ 0x80 then (b0 % 32 * 64 + b1 % 64, 2) else (65533, 1)
  else if b0 / 16 == 14 && (c1 && b1 / 64 == 2) && (c2 && b2 / 64 == 2) then
    if b0 % 16 * 4096 + b1 % 64 * 64 + b2 % 64 ≥ 0x800 && Utf8.valid (b0 % 16 * 4096 + b1 % 64 * 64 + b2 % 64 : Nat) then (b0 % 16 * 4096 + b1 % 64 * 64 + b2 % 64, 3) else (65533, 1)
  else if b0 / 8 == 30 && (c1 && b1 / 64 == 2) && (c2 && b2 / 64 == 2) && (c3 && b3 / 64 == 2) then
    if b0 % 8 * 262144 + b1 % 64 * 4096 + b2 % 64 * 64 + b3 % 64 ≥ 0x10000 && Utf8.valid (b0 % 8 * 262144 + b1 % 64 * 4096 + b2 % 64 * 64 + b3 % 64 : Nat) then (b0 % 8 * 262144 + b1 % 64 * 4096 + b2 % 64 * 64 + b3 % 64, 4) else (65533, 1)
  else (65533, 1)
def atN (s : List UInt8) (k : Nat) : Nat := (s.getD k 0).toNat
theorem get!_list (s : List UInt8) (j : Nat) : (ByteArray.mk ⟨s⟩).get! j = s.getD j 0 := by
  simp [ByteArray.get!, List.getD_eq_getElem?_getD]
  rfl
theorem size_list (s : List UInt8) : (ByteArray.mk ⟨s⟩).size = s.length := rfl
theorem decode_list (s : List UInt8) (i : Nat) : Utf8.decode ⟨⟨s⟩⟩ i = decG (atN s i) (atN s (i + 1)) (atN s (i + 2)) (atN s (i + 3)) (decide (i + 1 < s.length)) (decide (i + 2 < s.length)) (decide (i + 3 < s.length)) := by
  unfold Utf8.decode decG atN
  simp only [get!_list, size_list, Nat.add_zero, Utf8.runeError]
theorem dec_list (s : List UInt8) : dec s = decG (atN s 0) (atN s 1) (atN s 2) (atN s 3) (decide (1 < s.length)) (decide (2 < s.length)) (decide (3 < s.length)) := by
  have := decode_list s 0
  simp only [Nat.zero_add] at this
  exact this
theorem atN_drop (s : List UInt8) (i k : Nat) : atN (s.drop i) k = atN s (i + k) := by
  unfold atN
  rw [List.getD_eq_getElem?_getD, List.getD_eq_getElem?_getD, List.getElem?_drop]
theorem decode_drop (s : List UInt8) (i : Nat) : Utf8.decode ⟨⟨s⟩⟩ i = dec (s.drop i) := by
  rw [decode_list, dec_list]
  simp only [atN_drop, List.length_drop, Nat.add_zero]
  congr 1 <;> rw [decide_eq_decide] <;> omega
theorem runeAt_dec (s : List UInt8) (i : Nat) : runeAt s i = (dec (s.drop i)).1 := by unfold runeAt; rw [decode_drop]
theorem lenAt_dec (s : List UInt8) (i : Nat) : lenAt s i = (dec (s.drop i)).2 := by unfold lenAt; rw [decode_drop]

/-- What is no rune. -/
def badP : Nat × Nat := (65533, 1)
/-- The ways in which bytes are a rune. -/
theorem decG_good {b0 b1 b2 b3 : Nat} {c1 c2 c3 : Bool} (h : decG b0 b1 b2 b3 c1 c2 c3 ≠ badP) :
    (b0 < 0x80 ∧ decG b0 b1 b2 b3 c1 c2 c3 = (b0, 1) ∧ ∀ b1' b2' b3' c1' c2' c3', decG b0 b1' b2' b3' c1' c2' c3' = (b0, 1)) ∨
    (c1 = true ∧ (decG b0 b1 b2 b3 c1 c2 c3).2 = 2 ∧ ∀ b2' b3' c2' c3', decG b0 b1 b2' b3' true c2' c3' = decG b0 b1 b2 b3 c1 c2 c3) ∨
    (c1 = true ∧ c2 = true ∧ (decG b0 b1 b2 b3 c1 c2 c3).2 = 3 ∧ ∀ b3' c3', decG b0 b1 b2 b3' true true c3' = decG b0 b1 b2 b3 c1 c2 c3) ∨
    (c1 = true ∧ c2 = true ∧ c3 = true ∧ (decG b0 b1 b2 b3 c1 c2 c3).2 = 4) := by
  by_cases h0 : b0 < 0x80
  · exact .inl ⟨h0, by unfold decG; rw [if_pos h0], fun _ _ _ _ _ _ => by unfold decG; rw [if_pos h0]⟩
  refine .inr ?_
  by_cases h1 : (b0 / 32 == 6 && (c1 && b1 / 64 == 2)) = true
  · refine .inl ?_
    have hc : c1 = true := by simp only [Bool.and_eq_true] at h1; exact h1.2.1
    subst hc
    have e : ∀ b2' b3' c2' c3', decG b0 b1 b2' b3' true c2' c3' = if b0 % 32 * 64 + b1 % 64 ≥ 0x80 then (b0 % 32 * 64 + b1 % 64, 2) else (65533, 1) := fun _ _ _ _ => by
      unfold decG; rw [if_neg h0, if_pos h1]
    rw [e] at h ⊢
    refine ⟨rfl, ?_, fun _ _ _ _ => e _ _ _ _⟩
    split
    · rfl
    · rename_i hh; rw [if_neg hh] at h; exact absurd rfl h
  refine .inr ?_
  by_cases h2 : (b0 / 16 == 14 && (c1 && b1 / 64 == 2) && (c2 && b2 / 64 == 2)) = true
  · refine .inl ?_
    have hc : c1 = true ∧ c2 = true := by simp only [Bool.and_eq_true] at h2; exact ⟨h2.1.2.1, h2.2.1⟩
    obtain ⟨rfl, rfl⟩ := hc
    have e : ∀ b3' c3', decG b0 b1 b2 b3' true true c3' = if b0 % 16 * 4096 + b1 % 64 * 64 + b2 % 64 ≥ 0x800 && Utf8.valid (b0 % 16 * 4096 + b1 % 64 * 64 + b2 % 64 : Nat) then (b0 % 16 * 4096 + b1 % 64 * 64 + b2 % 64, 3) else (65533, 1) := fun _ _ => by
      unfold decG; rw [if_neg h0, if_neg h1, if_pos h2]
    rw [e] at h ⊢
    refine ⟨rfl, rfl, ?_, fun _ _ => e _ _⟩
    split
    · rfl
    · rename_i hh; rw [if_neg hh] at h; exact absurd rfl h
  refine .inr ?_
  by_cases h3 : (b0 / 8 == 30 && (c1 && b1 / 64 == 2) && (c2 && b2 / 64 == 2) && (c3 && b3 / 64 == 2)) = true
  · have hc : c1 = true ∧ c2 = true ∧ c3 = true := by simp only [Bool.and_eq_true] at h3; exact ⟨h3.1.1.2.1, h3.1.2.1, h3.2.1⟩
    obtain ⟨rfl, rfl, rfl⟩ := hc
    refine ⟨rfl, rfl, rfl, ?_⟩
    unfold decG at h ⊢
    rw [if_neg h0, if_neg h1, if_neg h2, if_pos h3] at h ⊢
    split
    · rfl
    · rename_i hh; rw [if_neg hh] at h; exact absurd rfl h
  · exfalso
    unfold decG at h
    rw [if_neg h0, if_neg h1, if_neg h2, if_neg h3] at h
    exact absurd rfl h
theorem dec_pos (s : List UInt8) : 1 ≤ (dec s).2 := by
  by_cases h : dec s = badP
  · rw [h]; exact Nat.le_refl _
  · rw [dec_list] at h ⊢
    rcases decG_good h with ⟨_, e, _⟩ | ⟨_, e, _⟩ | ⟨_, _, e, _⟩ | ⟨_, _, _, e⟩ <;> rw [e] <;> simp
theorem dec_le {s : List UInt8} (hs : s ≠ []) : (dec s).2 ≤ s.length := by
  have h0 : 0 < s.length := List.length_pos_iff.2 hs
  by_cases h : dec s = badP
  · rw [h]; exact h0
  · rw [dec_list] at h ⊢
    rcases decG_good h with ⟨_, e, _⟩ | ⟨c, e, _⟩ | ⟨_, c, e, _⟩ | ⟨_, _, c, e⟩ <;> rw [e]
    · exact h0
    · exact of_decide_eq_true c
    · exact of_decide_eq_true c
    · exact of_decide_eq_true c
theorem atN_app {s t : List UInt8} {n k : Nat} (h : k < n) (hn : n ≤ s.length) : atN (s.take n ++ t) k = atN s k := by
  unfold atN
  rw [List.getD_eq_getElem?_getD, List.getD_eq_getElem?_getD, List.getElem?_append_left (by simp; omega), List.getElem?_take_of_lt h]
/-- A rune hangs on its own bytes alone. -/
theorem dec_app {s : List UInt8} (hs : s ≠ []) (h : dec s ≠ badP) (t : List UInt8) : dec (s.take (dec s).2 ++ t) = dec s := by
  have hle := dec_le hs
  have h' := h
  rw [dec_list] at h'
  have hlen : ∀ n, n ≤ s.length → n ≤ (s.take n ++ t).length := fun n hn => by simp; omega
  rcases decG_good h' with ⟨_, e, f⟩ | ⟨c, e, f⟩ | ⟨c, c', e, f⟩ | ⟨c, c', c'', e⟩
  · have e2 : (dec s).2 = 1 := by rw [dec_list, e]
    rw [e2] at hle ⊢
    rw [dec_list (s.take 1 ++ t), dec_list s, atN_app (by omega) hle, f, e]
  · have e2 : (dec s).2 = 2 := by rw [dec_list, e]
    rw [e2] at hle ⊢
    rw [dec_list (s.take 2 ++ t), dec_list s, atN_app (by omega) hle, atN_app (by omega) hle, decide_eq_true (show 1 < (s.take 2 ++ t).length from hlen 2 hle), f]
  · have e2 : (dec s).2 = 3 := by rw [dec_list, e]
    rw [e2] at hle ⊢
    have := hlen 3 hle
    rw [dec_list (s.take 3 ++ t), dec_list s, atN_app (by omega) hle, atN_app (by omega) hle, atN_app (by omega) hle, decide_eq_true (show 1 < (s.take 3 ++ t).length by omega), decide_eq_true (show 2 < (s.take 3 ++ t).length by omega), f]
  · have e2 : (dec s).2 = 4 := by rw [dec_list, e]
    rw [e2] at hle ⊢
    have := hlen 4 hle
    rw [dec_list (s.take 4 ++ t), dec_list s, atN_app (by omega) hle, atN_app (by omega) hle, atN_app (by omega) hle, atN_app (by omega) hle, decide_eq_true (show 1 < (s.take 4 ++ t).length by omega), decide_eq_true (show 2 < (s.take 4 ++ t).length by omega), decide_eq_true (show 3 < (s.take 4 ++ t).length by omega), c, c', c'']

theorem drop_lt {s : List UInt8} (hs : s ≠ []) : (s.drop (dec s).2).length < s.length := by
  have h0 : 0 < s.length := List.length_pos_iff.2 hs
  have := dec_pos s
  rw [List.length_drop]; omega
/-- Where it is no UTF-8; below 0: nowhere. -/
def chk (s : List UInt8) : Int :=
  if h : s = [] then -1 else if dec s = badP then 0 else if chk (s.drop (dec s).2) < 0 then -1 else chk (s.drop (dec s).2) + (dec s).2
termination_by s.length
decreasing_by all_goals exact drop_lt h
/-- How many runes. -/
def wide (s : List UInt8) : Nat :=
  if h : s = [] then 0 else wide (s.drop (dec s).2) + 1
termination_by s.length
decreasing_by all_goals exact drop_lt h
theorem chk_nil : chk [] = -1 := by rw [chk, dif_pos rfl]
theorem chk_bad {s : List UInt8} (hs : s ≠ []) (h : dec s = badP) : chk s = 0 := by rw [chk, dif_neg hs, if_pos h]
theorem chk_good {s : List UInt8} (hs : s ≠ []) (h : dec s ≠ badP) : chk s = if chk (s.drop (dec s).2) < 0 then -1 else chk (s.drop (dec s).2) + (dec s).2 := by rw [chk, dif_neg hs, if_neg h]
theorem wide_nil : wide [] = 0 := by rw [wide, dif_pos rfl]
theorem wide_cons {s : List UInt8} (hs : s ≠ []) : wide s = wide (s.drop (dec s).2) + 1 := by rw [wide, dif_neg hs]
theorem by_runes {p : List UInt8 → Prop} (h0 : p []) (h1 : ∀ s, s ≠ [] → p (s.drop (dec s).2) → p s) (s : List UInt8) : p s := by
  have key : ∀ n (s : List UInt8), s.length = n → p s := by
    intro n
    induction n using Nat.strongRecOn with
    | _ n IH =>
      intro s hn
      by_cases hs : s = []
      · rw [hs]; exact h0
      · exact h1 s hs (IH _ (by rw [← hn]; exact drop_lt hs) _ rfl)
  exact key _ s rfl
theorem chk_ge (s : List UInt8) : -1 ≤ chk s ∧ chk s < s.length := by
  induction s using by_runes with
  | h0 => rw [chk_nil]; decide
  | h1 s hs IH =>
    have h0 : 0 < s.length := List.length_pos_iff.2 hs
    by_cases h : dec s = badP
    · rw [chk_bad hs h]; omega
    · rw [chk_good hs h]
      rw [List.length_drop] at IH
      have := dec_le hs
      split <;> omega
theorem wide_le (s : List UInt8) : wide s ≤ s.length := by
  induction s using by_runes with
  | h0 => rw [wide_nil]; exact Nat.zero_le _
  | h1 s hs IH =>
    have h0 : 0 < s.length := List.length_pos_iff.2 hs
    rw [wide_cons hs]
    have := drop_lt hs
    omega
theorem app_eq {s t : List UInt8} (hs : s ≠ []) (h : dec s ≠ badP) : dec (s ++ t) = dec s := by
  have e : s ++ t = s.take (dec s).2 ++ (s.drop (dec s).2 ++ t) := by rw [← List.append_assoc, List.take_append_drop]
  rw [e]
  exact dec_app hs h _
theorem good_app (t : List UInt8) (ht : chk t < 0) (s : List UInt8) : chk s < 0 → chk (s ++ t) < 0 ∧ wide (s ++ t) = wide s + wide t := by
  induction s using by_runes with
  | h0 => intro _; simp [wide_nil, ht]
  | h1 s hs IH =>
    intro hc
    have h : dec s ≠ badP := fun h => by rw [chk_bad hs h] at hc; omega
    have hle := dec_le hs
    rw [chk_good hs h] at hc
    have hn : chk (s.drop (dec s).2) < 0 := by
      by_cases hh : chk (s.drop (dec s).2) < 0
      · exact hh
      · rw [if_neg hh] at hc; have := dec_pos s; omega
    obtain ⟨i1, i2⟩ := IH hn
    have hne : s ++ t ≠ [] := by simp [hs]
    have e := app_eq (t := t) hs h
    have e2 : (s ++ t).drop (dec s).2 = s.drop (dec s).2 ++ t := List.drop_append_of_le_length hle
    constructor
    · rw [chk_good hne (by rw [e]; exact h), e, e2, if_pos i1]; decide
    · rw [wide_cons hne, wide_cons hs, e, e2, i2]; omega
theorem first_bad (s : List UInt8) : 0 ≤ chk s → chk (s.take (chk s).toNat) < 0 ∧ chk (s.drop (chk s).toNat) = 0 := by
  induction s using by_runes with
  | h0 => intro h; rw [chk_nil] at h; omega
  | h1 s hs IH =>
    intro hc
    by_cases h : dec s = badP
    · rw [chk_bad hs h]
      constructor
      · show chk (s.take 0) < 0
        rw [List.take_zero, chk_nil]; decide
      · show chk (s.drop 0) = 0
        rw [List.drop_zero, chk_bad hs h]
    · rw [chk_good hs h] at hc ⊢
      have hle := dec_le hs
      have hpos := dec_pos s
      by_cases hh : chk (s.drop (dec s).2) < 0
      · rw [if_pos hh] at hc; omega
      · rw [if_neg hh] at hc ⊢
        obtain ⟨i1, i2⟩ := IH (by omega)
        have hn : (chk (s.drop (dec s).2) + ((dec s).2 : Int)).toNat = (dec s).2 + (chk (s.drop (dec s).2)).toNat := by omega
        rw [hn]
        have e1 : s.take ((dec s).2 + (chk (s.drop (dec s).2)).toNat) = s.take (dec s).2 ++ (s.drop (dec s).2).take (chk (s.drop (dec s).2)).toNat := by rw [List.take_add]
        have hl : (s.take (dec s).2).length = (dec s).2 := by rw [List.length_take]; omega
        constructor
        · rw [e1]
          have hd := dec_app hs h ((s.drop (dec s).2).take (chk (s.drop (dec s).2)).toNat)
          have hne : s.take (dec s).2 ++ (s.drop (dec s).2).take (chk (s.drop (dec s).2)).toNat ≠ [] := by
            intro q
            have := congrArg List.length q
            rw [List.length_append, hl] at this
            simp at this; omega
          rw [chk_good hne (by rw [hd]; exact h), hd]
          have e3 : (s.take (dec s).2 ++ (s.drop (dec s).2).take (chk (s.drop (dec s).2)).toNat).drop (dec s).2 = (s.drop (dec s).2).take (chk (s.drop (dec s).2)).toNat := by
            conv => lhs; rw [show (dec s).2 = (s.take (dec s).2).length from hl.symm]
            rw [hl]
            exact List.drop_left' hl
          rw [e3, if_pos i1]; decide
        · rw [← List.drop_drop, i2]

/-- What the program asks: a rune that is the sign for none, and not that sign itself. -/
theorem bad_iff {s : List UInt8} (hs : s ≠ []) : ((dec s).1 = 65533 ∧ ¬ (3 ≤ s.length ∧ s.take 3 = [239, 191, 189])) ↔ dec s = badP := by
  have hb : ∀ k, atN s k < 256 := fun k => UInt8.toNat_lt _
  have hpre : 3 ≤ s.length → ((s.take 3 = [239, 191, 189]) ↔ (atN s 0 = 239 ∧ atN s 1 = 191 ∧ atN s 2 = 189)) := by
    intro h3
    match s, h3 with
    | a :: b :: c :: t, _ =>
      simp only [List.take_succ_cons, List.take_zero, List.cons.injEq, and_true, atN, List.getD_cons_zero, List.getD_cons_succ]
      constructor
      · rintro ⟨rfl, rfl, rfl⟩; exact ⟨rfl, rfl, rfl⟩
      · rintro ⟨h1, h2, h3⟩; exact ⟨UInt8.toNat_inj.1 h1, UInt8.toNat_inj.1 h2, UInt8.toNat_inj.1 h3⟩
  constructor
  · rintro ⟨h1, h2⟩
    refine Classical.byContradiction fun h => h2 ?_
    have h' := h
    rw [dec_list] at h'
    have e0 := h1
    rw [dec_list] at e0
    have hb0 := hb 0
    have hb1 := hb 1
    have hb2 := hb 2
    rcases decG_good h' with ⟨hl, e, _⟩ | ⟨c, e, f⟩ | ⟨c, c', e, f⟩ | ⟨c, c', c'', e⟩
    · rw [e] at e0; simp only at e0; omega
    · exfalso
      revert e0 e
      unfold decG
      repeat' split
      all_goals simp only
      all_goals omega
    · have hl : 3 ≤ s.length := of_decide_eq_true c'
      refine ⟨hl, (hpre hl).2 ?_⟩
      rw [c, c'] at e e0
      revert e0 e
      unfold decG
      simp only [Bool.true_and]
      split
      · simp only; omega
      · split
        · split <;> simp only <;> omega
        · split
          · rename_i h3
            simp only [Bool.and_eq_true, beq_iff_eq] at h3
            split
            · simp only; intro q _; omega
            · simp only; omega
          · split
            · split <;> simp only <;> omega
            · simp only; omega
    · exfalso
      rw [c, c', c''] at e e0
      revert e0 e
      unfold decG
      simp only [Bool.true_and]
      split
      · simp only; omega
      · split
        · split <;> simp only <;> omega
        · split
          · split <;> simp only <;> omega
          · split
            · split
              · rename_i h4; simp only [Bool.and_eq_true, decide_eq_true_eq] at h4; simp only; omega
              · simp only; omega
            · simp only; omega
  · intro h
    refine ⟨by rw [h]; rfl, fun ⟨h3, hp⟩ => ?_⟩
    obtain ⟨p0, p1, p2⟩ := (hpre h3).1 hp
    rw [dec_list, p0, p1, p2, decide_eq_true (show 1 < s.length by omega), decide_eq_true (show 2 < s.length by omega)] at h
    revert h
    unfold decG badP
    simp [Utf8.valid]

theorem drop_ne {s : List UInt8} {p : Nat} (h : p < s.length) : s.drop p ≠ [] := fun e => by
  have := congrArg List.length e
  simp at this; omega
/-- A round of a loop over a text. -/
theorem next_le {s : List UInt8} {p : Nat} (h : p < s.length) : p + lenAt s p ≤ s.length ∧ 1 ≤ lenAt s p := by
  have h1 := dec_le (drop_ne h)
  have h2 := dec_pos (s.drop p)
  rw [lenAt_dec]
  rw [List.length_drop] at h1
  omega
theorem wide_next {s : List UInt8} {p : Nat} (h : p < s.length) : wide (s.drop p) = wide (s.drop (p + lenAt s p)) + 1 := by
  rw [wide_cons (drop_ne h), lenAt_dec, List.drop_drop]
theorem bad_at {s : List UInt8} {p : Nat} (h : p < s.length) (c : ((runeAt s p : Nat) : Int) = 65533 ∧ ¬ (3 ≤ (s.drop p).length ∧ (s.drop p).take 3 = [239, 191, 189])) : chk (s.drop p) = 0 := by
  refine chk_bad (drop_ne h) ((bad_iff (drop_ne h)).1 ⟨?_, c.2⟩)
  have := runeAt_dec s p
  omega
theorem good_at {s : List UInt8} {p : Nat} (h : p < s.length) (c : ¬ (((runeAt s p : Nat) : Int) = 65533 ∧ ¬ (3 ≤ (s.drop p).length ∧ (s.drop p).take 3 = [239, 191, 189]))) : chk (s.drop p) = if chk (s.drop (p + lenAt s p)) < 0 then -1 else chk (s.drop (p + lenAt s p)) + lenAt s p := by
  have hb : dec (s.drop p) ≠ badP := fun e => c (by
    have := (bad_iff (drop_ne h)).2 e
    refine ⟨?_, this.2⟩
    have h1 := runeAt_dec s p
    have h2 := this.1
    omega)
  rw [chk_good (drop_ne h) hb, lenAt_dec, List.drop_drop]
theorem chk_step {s : List UInt8} {p : Nat} (hc : chk s = if chk (s.drop p) < 0 then -1 else chk (s.drop p) + p) {n : Nat} (h : chk (s.drop p) = if chk (s.drop (p + n)) < 0 then -1 else chk (s.drop (p + n)) + n) : chk s = if chk (s.drop (p + n)) < 0 then -1 else chk (s.drop (p + n)) + ((p + n : Nat) : Int) := by
  rw [hc, h]
  by_cases hn : chk (s.drop (p + n)) < 0
  · simp [hn]
  · rw [if_neg hn, if_neg (by omega), if_neg hn]; omega


/-- How many bytes stand behind a first one. -/
def moreB (c : Nat) : Int := if c < 128 then 0 else if 194 ≤ c ∧ c ≤ 223 then 1 else if 224 ≤ c ∧ c ≤ 239 then 2 else if 240 ≤ c ∧ c ≤ 244 then 3 else -1
/-- How many bytes the first rune has; 0: none. -/
def one (s : List UInt8) : Nat := if s = [] then 0 else if dec s = badP then 0 else (dec s).2
def oneG (b0 b1 b2 b3 : Nat) (c1 c2 c3 : Bool) : Nat := if decG b0 b1 b2 b3 c1 c2 c3 = badP then 0 else (decG b0 b1 b2 b3 c1 c2 c3).2
theorem one_eq {s : List UInt8} (hs : s ≠ []) : one s = oneG (atN s 0) (atN s 1) (atN s 2) (atN s 3) (decide (1 < s.length)) (decide (2 < s.length)) (decide (3 < s.length)) := by
  unfold one oneG
  rw [if_neg hs, dec_list]
theorem atN_lt (s : List UInt8) (k : Nat) : atN s k < 256 := UInt8.toNat_lt _

section
variable {b0 b1 b2 b3 : Nat} {c1 c2 c3 : Bool}
theorem oneG_0 (h : b0 < 128) : oneG b0 b1 b2 b3 c1 c2 c3 = 1 := by
  have e : decG b0 b1 b2 b3 c1 c2 c3 = (b0, 1) := by unfold decG; rw [if_pos h]
  unfold oneG badP
  rw [e, if_neg (by intro q; simp at q; omega)]
theorem oneG_bad (h : decG b0 b1 b2 b3 c1 c2 c3 = badP) : oneG b0 b1 b2 b3 c1 c2 c3 = 0 := by unfold oneG; rw [if_pos h]
theorem oneG_none (h : moreB b0 = -1) (hb : b0 < 256) : oneG b0 b1 b2 b3 c1 c2 c3 = 0 := by
  have h0 : 128 ≤ b0 ∧ b0 ≤ 193 ∨ 245 ≤ b0 := by
    unfold moreB at h
    repeat' split at h
    all_goals omega
  refine oneG_bad ?_
  unfold decG badP
  rw [if_neg (by omega)]
  split
  · rename_i h1
    simp only [Bool.and_eq_true, beq_iff_eq] at h1
    rw [if_neg (by omega)]
  · split
    · rename_i h1
      simp only [Bool.and_eq_true, beq_iff_eq] at h1
      omega
    · split
      · rename_i h1
        simp only [Bool.and_eq_true, beq_iff_eq] at h1
        rw [if_neg]
        intro q
        simp only [Utf8.valid, Bool.and_eq_true, Bool.or_eq_true, decide_eq_true_eq] at q
        omega
      · rfl
theorem oneG_1 (h : 194 ≤ b0 ∧ b0 ≤ 223) : oneG b0 b1 b2 b3 c1 c2 c3 = if c1 = true ∧ 128 ≤ b1 ∧ b1 ≤ 191 then 2 else 0 := by
  by_cases hc : c1 = true ∧ 128 ≤ b1 ∧ b1 ≤ 191
  · rw [if_pos hc]
    have e : decG b0 b1 b2 b3 c1 c2 c3 = (b0 % 32 * 64 + b1 % 64, 2) := by
      unfold decG
      rw [if_neg (by omega), if_pos (by simp only [Bool.and_eq_true, beq_iff_eq]; exact ⟨by omega, hc.1, by omega⟩), if_pos (by omega)]
    unfold oneG badP
    rw [e, if_neg (by intro q; simp at q)]
  · rw [if_neg hc]
    refine oneG_bad ?_
    unfold decG badP
    rw [if_neg (by omega), if_neg (by simp only [Bool.and_eq_true, beq_iff_eq]; rintro ⟨_, q1, q2⟩; exact hc ⟨q1, by omega⟩), if_neg (by simp only [Bool.and_eq_true, beq_iff_eq]; omega), if_neg (by simp only [Bool.and_eq_true, beq_iff_eq]; omega)]
theorem oneG_2 (h : 224 ≤ b0 ∧ b0 ≤ 239) : oneG b0 b1 b2 b3 c1 c2 c3 = if c1 = true ∧ c2 = true ∧ (128 ≤ b1 ∧ b1 ≤ 191) ∧ (128 ≤ b2 ∧ b2 ≤ 191) ∧ 2048 ≤ b0 % 16 * 4096 + b1 % 64 * 64 + b2 % 64 ∧ ¬ (55296 ≤ b0 % 16 * 4096 + b1 % 64 * 64 + b2 % 64 ∧ b0 % 16 * 4096 + b1 % 64 * 64 + b2 % 64 ≤ 57343) then 3 else 0 := by
  by_cases hc : (b0 / 16 == 14 && (c1 && b1 / 64 == 2) && (c2 && b2 / 64 == 2)) = true
  · have hc' := hc
    simp only [Bool.and_eq_true, beq_iff_eq] at hc'
    have e : decG b0 b1 b2 b3 c1 c2 c3 = if b0 % 16 * 4096 + b1 % 64 * 64 + b2 % 64 ≥ 0x800 && Utf8.valid (b0 % 16 * 4096 + b1 % 64 * 64 + b2 % 64 : Nat) then (b0 % 16 * 4096 + b1 % 64 * 64 + b2 % 64, 3) else (65533, 1) := by
      unfold decG
      rw [if_neg (by omega), if_neg (by simp only [Bool.and_eq_true, beq_iff_eq]; omega), if_pos hc]
    unfold oneG badP
    rw [e]
    by_cases hv : (decide (b0 % 16 * 4096 + b1 % 64 * 64 + b2 % 64 ≥ 0x800) && Utf8.valid (b0 % 16 * 4096 + b1 % 64 * 64 + b2 % 64 : Nat)) = true
    · rw [if_pos hv, if_neg (by intro q; simp at q)]
      simp only [Utf8.valid, Bool.and_eq_true, Bool.or_eq_true, decide_eq_true_eq] at hv
      rw [if_pos ⟨hc'.1.2.1, hc'.2.1, by omega, by omega, by omega, by omega⟩]
    · rw [if_neg hv, if_pos rfl, if_neg]
      rintro ⟨_, _, _, _, q1, q2⟩
      refine hv ?_
      simp only [Utf8.valid, Bool.and_eq_true, Bool.or_eq_true, decide_eq_true_eq]
      omega
  · rw [if_neg (by
      rintro ⟨q1, q2, q3, q4, _⟩
      refine hc ?_
      simp only [Bool.and_eq_true, beq_iff_eq]
      exact ⟨⟨by omega, q1, by omega⟩, q2, by omega⟩)]
    refine oneG_bad ?_
    unfold decG badP
    rw [if_neg (by omega), if_neg (by simp only [Bool.and_eq_true, beq_iff_eq]; omega), if_neg hc, if_neg (by simp only [Bool.and_eq_true, beq_iff_eq]; omega)]
theorem oneG_3 (h : 240 ≤ b0 ∧ b0 ≤ 244) : oneG b0 b1 b2 b3 c1 c2 c3 = if c1 = true ∧ c2 = true ∧ c3 = true ∧ (128 ≤ b1 ∧ b1 ≤ 191) ∧ (128 ≤ b2 ∧ b2 ≤ 191) ∧ (128 ≤ b3 ∧ b3 ≤ 191) ∧ 65536 ≤ b0 % 8 * 262144 + b1 % 64 * 4096 + b2 % 64 * 64 + b3 % 64 ∧ b0 % 8 * 262144 + b1 % 64 * 4096 + b2 % 64 * 64 + b3 % 64 ≤ 1114111 then 4 else 0 := by
  by_cases hc : (b0 / 8 == 30 && (c1 && b1 / 64 == 2) && (c2 && b2 / 64 == 2) && (c3 && b3 / 64 == 2)) = true
  · have hc' := hc
    simp only [Bool.and_eq_true, beq_iff_eq] at hc'
    have e : decG b0 b1 b2 b3 c1 c2 c3 = if b0 % 8 * 262144 + b1 % 64 * 4096 + b2 % 64 * 64 + b3 % 64 ≥ 0x10000 && Utf8.valid (b0 % 8 * 262144 + b1 % 64 * 4096 + b2 % 64 * 64 + b3 % 64 : Nat) then (b0 % 8 * 262144 + b1 % 64 * 4096 + b2 % 64 * 64 + b3 % 64, 4) else (65533, 1) := by
      unfold decG
      rw [if_neg (by omega), if_neg (by simp only [Bool.and_eq_true, beq_iff_eq]; omega), if_neg (by simp only [Bool.and_eq_true, beq_iff_eq]; omega), if_pos hc]
    unfold oneG badP
    rw [e]
    by_cases hv : (decide (b0 % 8 * 262144 + b1 % 64 * 4096 + b2 % 64 * 64 + b3 % 64 ≥ 0x10000) && Utf8.valid (b0 % 8 * 262144 + b1 % 64 * 4096 + b2 % 64 * 64 + b3 % 64 : Nat)) = true
    · rw [if_pos hv, if_neg (by intro q; simp at q)]
      simp only [Utf8.valid, Bool.and_eq_true, Bool.or_eq_true, decide_eq_true_eq] at hv
      rw [if_pos ⟨hc'.1.1.2.1, hc'.1.2.1, hc'.2.1, by omega, by omega, by omega, by omega, by omega⟩]
    · rw [if_neg hv, if_pos rfl, if_neg]
      rintro ⟨_, _, _, _, _, _, q1, q2⟩
      refine hv ?_
      simp only [Utf8.valid, Bool.and_eq_true, Bool.or_eq_true, decide_eq_true_eq]
      omega
  · rw [if_neg (by
      rintro ⟨q1, q2, q3, q4, q5, q6, _⟩
      refine hc ?_
      simp only [Bool.and_eq_true, beq_iff_eq]
      exact ⟨⟨⟨by omega, q1, by omega⟩, q2, by omega⟩, q3, by omega⟩)]
    refine oneG_bad ?_
    unfold decG badP
    rw [if_neg (by omega), if_neg (by simp only [Bool.and_eq_true, beq_iff_eq]; omega), if_neg (by simp only [Bool.and_eq_true, beq_iff_eq]; omega), if_neg hc]
end
theorem one_le (s : List UInt8) : one s ≤ s.length := by
  unfold one
  split
  · exact Nat.zero_le _
  · rename_i h
    split
    · exact Nat.zero_le _
    · exact dec_le h
theorem max_one {s : List UInt8} (hs : s ≠ []) : max (one s) 1 = (dec s).2 := by
  unfold one
  rw [if_neg hs]
  split
  · rename_i h; rw [h]; rfl
  · have := dec_pos s; omega
theorem one_zero {s : List UInt8} (hs : s ≠ []) : one s = 0 ↔ dec s = badP := by
  unfold one
  rw [if_neg hs]
  split
  · rename_i h; exact ⟨fun _ => h, fun _ => rfl⟩
  · rename_i h
    have := dec_pos s
    exact ⟨fun q => by omega, fun q => absurd q h⟩
theorem one_good {s : List UInt8} (h : one s ≠ 0) : s ≠ [] ∧ dec s ≠ badP ∧ (dec s).2 = one s := by
  unfold one at h ⊢
  by_cases hs : s = []
  · rw [if_pos hs] at h; exact absurd rfl h
  · rw [if_neg hs] at h ⊢
    by_cases hb : dec s = badP
    · rw [if_pos hb] at h; exact absurd rfl h
    · rw [if_neg hb]; exact ⟨hs, hb, rfl⟩

theorem lastLen_feed (t : List UInt8) : lastLen (10 :: t) = lastLen t := by simp [lastLen, lastFrom]
theorem lastLen_cons {x : UInt8} (h : x ≠ 10) (t : List UInt8) : lastLen (x :: t) = if t.count 10 = 0 then lastLen t + 1 else lastLen t := by
  have e : lastLen (x :: t) = lastFrom 1 t := by simp [lastLen, lastFrom, h]
  rw [e]
  split
  · rename_i hk
    have hm := List.count_eq_zero.1 hk
    rw [lastFrom_no _ hm]; unfold lastLen; rw [lastFrom_no _ hm]; omega
  · rename_i hk
    exact lastFrom_mem _ (List.count_pos_iff.1 (Nat.pos_of_ne_zero hk)) 1 0
theorem place_of (s : List UInt8) : ∀ l c, l < (linesOf s).length → c ≤ ((linesOf s).getD l []).length → offL (linesOf s) l + c ≤ s.length ∧ (s.take (offL (linesOf s) l + c)).count 10 = l ∧ lastLen (s.take (offL (linesOf s) l + c)) = c := by
  induction s with
  | nil =>
    intro l c hl hc
    have : l = 0 := by simp [linesOf] at hl; exact hl
    subst this
    have : c = 0 := by simp [linesOf] at hc; exact hc
    subst this
    simp [linesOf, offL, lastLen, lastFrom]
  | cons x s IH =>
    intro l c hl hc
    by_cases h : x = 10
    · subst h
      rw [linesOf_feed] at hl hc ⊢
      cases l with
      | zero =>
        have : c = 0 := by simpa using hc
        subst this
        simp [offL, lastLen, lastFrom]
      | succ k =>
        obtain ⟨h1, h2, h3⟩ := IH k c (by simpa using hl) (by simpa using hc)
        simp only [offL, List.length_nil, Nat.zero_add, List.length_cons]
        rw [show 1 + offL (linesOf s) k + c = (offL (linesOf s) k + c) + 1 by omega, List.take_succ_cons, List.count_cons_self, lastLen_feed, h2, h3]
        exact ⟨by omega, rfl, rfl⟩
    · obtain ⟨a, ls, e⟩ := linesOf_ex s
      rw [linesOf_cons h e] at hl hc ⊢
      rw [e] at IH
      cases l with
      | zero =>
        rw [offL_zero, Nat.zero_add]
        cases c with
        | zero => simp [lastLen, lastFrom]
        | succ c =>
          obtain ⟨h1, h2, h3⟩ := IH 0 c (by simp) (by simpa using hc)
          rw [offL_zero, Nat.zero_add] at h1 h2 h3
          rw [List.take_succ_cons, List.count_cons_of_ne h, lastLen_cons h, h2, h3]
          exact ⟨by simpa using h1, rfl, rfl⟩
      | succ k =>
        obtain ⟨h1, h2, h3⟩ := IH (k + 1) c (by simpa using hl) (by simpa using hc)
        simp only [offL, List.length_cons] at h1 h2 h3 ⊢
        rw [show a.length + 1 + 1 + offL ls k + c = (a.length + 1 + offL ls k + c) + 1 by omega, List.take_succ_cons, List.count_cons_of_ne h, lastLen_cons h, h2, h3]
        exact ⟨by omega, rfl, rfl⟩


theorem linesOf_two (s t : List UInt8) : linesOf (s ++ 10 :: t) = linesOf s ++ linesOf t := by
  induction s with
  | nil => rw [List.nil_append, linesOf_feed]; rfl
  | cons c s IH =>
    by_cases h : c = 10
    · subst h
      rw [List.cons_append, linesOf_feed, linesOf_feed, IH]; rfl
    · obtain ⟨l, ls, e⟩ := linesOf_ex s
      rw [List.cons_append, linesOf_cons h e]
      rw [e, List.cons_append] at IH
      rw [linesOf_cons h IH]; rfl
/-- The widest of the first lines. -/
def widestTo (ls : List (List UInt8)) : Nat → Nat
  | 0 => 0
  | k + 1 => max (widestTo ls k) (wide (ls.getD k []))
def widestS (s : List UInt8) : Nat := widestTo (linesOf s) (linesOf s).length
theorem widestTo_ge (ls : List (List UInt8)) (n : Nat) : ∀ k, k < n → wide (ls.getD k []) ≤ widestTo ls n := by
  induction n with
  | zero => intro k h; cases h
  | succ n IH =>
    intro k h
    rcases Nat.lt_succ_iff_lt_or_eq.1 h with h | h
    · have := IH k h
      simp only [widestTo]; omega
    · subst h; simp only [widestTo]; omega
theorem widestTo_app (a b : List (List UInt8)) (n : Nat) : n ≤ a.length → widestTo (a ++ b) n = widestTo a n := by
  induction n with
  | zero => intro _; rfl
  | succ n IH =>
    intro h
    simp only [widestTo]
    rw [IH (by omega)]
    congr 2
    rw [List.getD_eq_getElem?_getD, List.getD_eq_getElem?_getD, List.getElem?_append_left h]
theorem widestTo_le (s : List UInt8) (n : Nat) : widestTo (linesOf s) n ≤ s.length := by
  induction n with
  | zero => exact Nat.zero_le _
  | succ n IH =>
    have h1 := wide_le ((linesOf s).getD n [])
    have h2 := line_le s n
    simp only [widestTo]; omega
/-- So many blanks. -/
def blanksOf (k : Nat) : List UInt8 := List.replicate k 32
theorem blanksOf_succ (k : Nat) : blanksOf (k + 1) = blanksOf k ++ [32] := by
  unfold blanksOf
  rw [List.replicate_succ']
theorem blanksOf_length (k : Nat) : (blanksOf k).length = k := by unfold blanksOf; simp
theorem wide_blanks (k : Nat) : wide (blanksOf k) = k := by
  induction k with
  | zero => exact wide_nil
  | succ k IH =>
    have hd : dec (blanksOf (k + 1)) = (32, 1) := by
      rw [dec_list]
      have : atN (blanksOf (k + 1)) 0 = 32 := rfl
      rw [this]
      unfold decG
      rw [if_pos (by decide)]
    rw [wide_cons (by intro q; have := congrArg List.length q; rw [blanksOf_length] at this; cases this), hd]
    have : (blanksOf (k + 1)).drop 1 = blanksOf k := rfl
    rw [this, IH]
theorem widest_more (s : List UInt8) (k : Nat) : widestS (s ++ [10] ++ blanksOf k) = max (widestS s) k := by
  have hno : (10 : UInt8) ∉ blanksOf k := by
    unfold blanksOf
    intro h
    have := List.eq_of_mem_replicate h
    cases this
  unfold widestS
  rw [List.append_assoc, List.singleton_append, linesOf_two, linesOf_one _ hno, List.length_append, List.length_singleton]
  simp only [widestTo]
  rw [widestTo_app _ _ _ (Nat.le_refl _), List.getD_eq_getElem?_getD, List.getElem?_append_right (Nat.le_refl _)]
  simp [wide_blanks]
theorem widest_nil : widestS [] = 0 := by
  unfold widestS linesOf
  simp only [List.length_singleton, widestTo]
  show max 0 (wide []) = 0
  rw [wide_nil]; rfl


end Go.AM
