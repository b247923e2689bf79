/-
  Numbers, texts, comparisons: the abstract machine's are the model's.
-/
import Derived.Test.YtaahfplokcfncaaGreatDoorAmStore
import Derived.Laws.Strings
namespace Go.AM
open Go.RowKit

theorem bool_rec_none {α : Type} {b : Bool} {x : Option α} {r : α} (h : Bool.rec (motive := fun _ => Option α) x none b = some r) : b = false ∧ x = some r := by
  cases b with
  | false => exact ⟨rfl, h⟩
  | true => cases h

theorem R.int {g : Gh} {k : IntKind} {n : Int} : R g (.int k n) (.int k n) := .gnd (.int k n)
theorem R.bool {g : Gh} {b : Bool} : R g (.bool b) (.bool b) := .gnd (.bool b)
theorem R.str {g : Gh} {s : ByteArray} : R g (.string s) (.str s.data.toList) := .gnd (.str rfl)
theorem R.str' {g : Gh} {s : ByteArray} {l : List UInt8} (h : s.data.toList = l) : R g (.string s) (.str l) := .gnd (.str h)

theorem intOp_sound {P : Program} {g : Gh} {w : World} {t : TypeId} {op : BinOp} {k k' : IntKind} {a b : Int} {z : V} (h : intOp op k a b = some z) (hk : isShift op = true ∨ k = k') :
    ∃ v, (Go.binOp op t (.int k a) (.int k' b)).run P w = .ok v w ∧ R g v z := by
  have hk' : isShift op = false → k = k' := fun e => by
    rcases hk with h | h
    · rw [e] at h; cases h
    · exact h
  cases op with
  | add => have := hk' rfl; subst this; cases (okInt_eq k (a + b)).symm.trans h; exact ⟨_, by simp [Go.binOp, Op.intArith], .int⟩
  | sub => have := hk' rfl; subst this; cases (okInt_eq k (a - b)).symm.trans h; exact ⟨_, by simp [Go.binOp, Op.intArith], .int⟩
  | mul => have := hk' rfl; subst this; cases (okInt_eq k (a * b)).symm.trans h; exact ⟨_, by simp [Go.binOp, Op.intArith], .int⟩
  | quo =>
    have := hk' rfl; subst this
    obtain ⟨h0, h⟩ := bool_rec_none h
    have hb : b ≠ 0 := fun e => by rw [(ieq_iff b 0).2 e] at h0; cases h0
    cases (okInt_eq k (a.tdiv b)).symm.trans h
    exact ⟨_, by simp [Go.binOp, Op.intDiv, hb], .int⟩
  | rem =>
    have := hk' rfl; subst this
    obtain ⟨h0, h⟩ := bool_rec_none h
    have hb : b ≠ 0 := fun e => by rw [(ieq_iff b 0).2 e] at h0; cases h0
    cases (forceI_eq k (a.tmod b)).symm.trans h
    exact ⟨_, by simp [Go.binOp, Op.intDiv, hb], .int⟩
  | and => have := hk' rfl; subst this; cases (forceI_eq k _).symm.trans h; exact ⟨_, by simp [Go.binOp, Op.intBits], .int⟩
  | or => have := hk' rfl; subst this; cases (forceI_eq k _).symm.trans h; exact ⟨_, by simp [Go.binOp, Op.intBits], .int⟩
  | xor => have := hk' rfl; subst this; cases (forceI_eq k _).symm.trans h; exact ⟨_, by simp [Go.binOp, Op.intBits], .int⟩
  | andNot => have := hk' rfl; subst this; cases (forceI_eq k _).symm.trans h; exact ⟨_, by simp [Go.binOp, Op.intBits], .int⟩
  | shl =>
    obtain ⟨h0, h⟩ := bool_rec_none h
    have hb : ¬ b < 0 := fun e => by rw [(ilt_iff b 0).2 e] at h0; cases h0
    cases (okInt_eq k _).symm.trans h
    exact ⟨_, by simp [Go.binOp, Op.shift, hb], .int⟩
  | shr =>
    obtain ⟨h0, h⟩ := bool_rec_none h
    have hb : ¬ b < 0 := fun e => by rw [(ilt_iff b 0).2 e] at h0; cases h0
    cases (forceI_eq k _).symm.trans h
    exact ⟨_, by simp [Go.binOp, Op.shift, hb], .int⟩
  | eql => have := hk' rfl; subst this; cases h; exact ⟨.bool (a == b), by simp [Go.binOp, Op.intCmp], by rw [ieq_eq]; exact .bool⟩
  | neq => have := hk' rfl; subst this; cases h; exact ⟨.bool (a != b), by simp [Go.binOp, Op.intCmp], by rw [ieq_eq]; exact .bool⟩
  | lss => have := hk' rfl; subst this; cases h; exact ⟨.bool (decide (a < b)), by simp [Go.binOp, Op.intCmp], by rw [ilt_eq]; exact .bool⟩
  | leq => have := hk' rfl; subst this; cases h; exact ⟨.bool (decide (a ≤ b)), by simp [Go.binOp, Op.intCmp], by rw [ile_eq]; exact .bool⟩
  | gtr => have := hk' rfl; subst this; cases h; exact ⟨.bool (decide (b < a)), by simp [Go.binOp, Op.intCmp], by rw [ilt_eq]; exact .bool⟩
  | geq => have := hk' rfl; subst this; cases h; exact ⟨.bool (decide (b ≤ a)), by simp [Go.binOp, Op.intCmp], by rw [ile_eq]; exact .bool⟩

theorem bytesLt_eq (a b : List UInt8) : bytesLt a b = Op.bytesLess a b := by
  induction a generalizing b with
  | nil => cases b <;> rfl
  | cons x xs ih =>
    cases b with
    | nil => rfl
    | cons y ys =>
      show (bif Nat.blt x.toNat y.toNat then true else bif byteEq x y then bytesLt xs ys else false) = (decide (x < y) || (x == y && Op.bytesLess xs ys))
      rw [ih]
      have h1 : Nat.blt x.toNat y.toNat = decide (x < y) := by
        rw [Bool.eq_iff_iff]; simp [Nat.blt_eq, UInt8.lt_iff_toNat_lt]
      have h2 : byteEq x y = (x == y) := by rw [Bool.eq_iff_iff, byteEq_iff]; simp
      rw [h1, h2]
      cases decide (x < y) <;> cases (x == y) <;> rfl

/-- Texts are in a row: one comes ahead of the other, or they are the same. -/
theorem bytesLess_total (a b : List UInt8) : (Op.bytesLess a b || (a == b)) = !(Op.bytesLess b a) := by
  induction a generalizing b with
  | nil => cases b <;> rfl
  | cons x xs ih =>
    cases b with
    | nil => rfl
    | cons y ys =>
      simp only [Op.bytesLess, List.cons_beq_cons]
      have hi := ih ys
      by_cases h1 : x < y
      · have h2 : ¬ y < x := by rw [UInt8.lt_iff_toNat_lt] at *; omega
        have h3 : (y == x) = false := by
          rw [Bool.eq_false_iff]; intro e; have := eq_of_beq e; subst this; rw [UInt8.lt_iff_toNat_lt] at h1; omega
        simp [h1, h2, h3]
      · by_cases h2 : y < x
        · have h3 : (x == y) = false := by
            rw [Bool.eq_false_iff]; intro e; have := eq_of_beq e; subst this; rw [UInt8.lt_iff_toNat_lt] at h2; omega
          simp [h1, h2, h3]
        · have : x = y := by
            rw [UInt8.lt_iff_toNat_lt] at h1 h2
            exact UInt8.toNat_inj.1 (by omega)
          subst this
          simp [hi]

theorem toList_eq (s : ByteArray) : s.toList = s.data.toList := by
  rw [ByteArray.toList_eq]
theorem append_data (a b : ByteArray) : (a ++ b).data.toList = a.data.toList ++ b.data.toList := by simp

theorem strEq_eq (a b : List UInt8) : strEq a b = (a == b) := by rw [Bool.eq_iff_iff, strEq_iff]; simp

theorem strOp_sound {P : Program} {g : Gh} {w : World} {t : TypeId} {op : BinOp} {s u : ByteArray} {z : V} (h : strOp op s.data.toList u.data.toList = some z) :
    ∃ v, (Go.binOp op t (.string s) (.string u)).run P w = .ok v w ∧ R g v z := by
  have hsz : ∀ x : ByteArray, x.data.toList.length = x.size := fun x => by rw [Array.length_toList]; rfl
  cases op with
  | add =>
    obtain ⟨hb, h⟩ := bif_some h rfl
    cases h
    rw [Nat.ble_eq, List.len_eq, List.len_eq, hsz, hsz] at hb
    change s.size + u.size ≤ room at hb
    unfold room at hb
    refine ⟨.string (s ++ u), ?_, .str' (by rw [append_data, List.app_eq])⟩
    simp only [Go.binOp, Op.stringOp]
    rw [if_neg (by simp [IntKind.max, IntKind.signed, IntKind.bits]; omega)]
    rfl
  | eql => cases h; exact ⟨_, by simp only [Go.binOp, Op.stringOp, toList_eq]; rfl, by rw [strEq_eq]; exact .bool⟩
  | neq => cases h; exact ⟨_, by simp only [Go.binOp, Op.stringOp, toList_eq]; rfl, by rw [strEq_eq]; exact .bool⟩
  | lss => cases h; exact ⟨_, by simp only [Go.binOp, Op.stringOp, toList_eq]; rfl, by rw [bytesLt_eq]; exact .bool⟩
  | leq => cases h; exact ⟨_, by simp only [Go.binOp, Op.stringOp, toList_eq]; rfl, by rw [bytesLt_eq, ← bytesLess_total]; exact .bool⟩
  | gtr =>
    cases h
    refine ⟨_, by simp only [Go.binOp, Op.stringOp, toList_eq]; rfl, ?_⟩
    rw [bytesLt_eq, bytesLess_total, Bool.not_not]; exact .bool
  | geq => cases h; exact ⟨_, by simp only [Go.binOp, Op.stringOp, toList_eq]; rfl, by rw [bytesLt_eq]; exact .bool⟩
  | _ => cases h

theorem unOp_sound {P : Program} {g : Gh} {w : World} {op : UnOp} {v : Value} {x z : V} (hR : R g v x) (h : unOp op x = some z) :
    ∃ u, (Op.unary op v).run P w = .ok u w ∧ R g u z := by
  cases x with
  | int k n =>
    have := hR.int_inv; subst this
    cases op with
    | neg => cases (okInt_eq k (0 - n)).symm.trans h; exact ⟨.int k (k.wrap (0 - n)), by simp [Op.unary, Op.intArith], .int⟩
    | xor =>
      have h' : intOp .xor k (if k.signed then -1 else k.max) n = some z := h
      cases (forceI_eq k _).symm.trans h'
      exact ⟨_, by simp [Op.unary, Op.intBits], .int⟩
    | _ => cases h
  | bool b =>
    have := hR.bool_inv; subst this
    cases op with
    | not => cases h; exact ⟨_, by simp [Op.unary], .bool⟩
    | _ => cases h
  | _ => cases h

end Go.AM
