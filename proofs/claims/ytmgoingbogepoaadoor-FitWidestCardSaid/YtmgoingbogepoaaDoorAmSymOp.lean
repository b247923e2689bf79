/-
  RUNS OVER UNKNOWN DATA: what single operations come to, as equations.
-/
import Derived.Test.YtmgoingbogepoaaDoorAmEv
namespace Go.AM
open Go.RowKit

variable {P : Program} {G : Nat → Option V} {tm : T V} {h : Heap}

theorem operD_move (x : Operand) : operD (.move x) P G tm h = ofOpt h (ev G tm x) := rfl
theorem operD_assign (x : Operand) : operD (.assign x) P G tm h = ofOpt h (ev G tm x) := rfl
theorem operD_pick (c a b : Operand) : operD (.pick c a b) P G tm h = oPick G tm h c a b := rfl
theorem operD_load (t : TypeId) (a : Operand) : operD (.load t a) P G tm h = o1 G tm h a (load P h t) := rfl
theorem operD_store (t : TypeId) (a x : Operand) : operD (.store t a x) P G tm h = oStore P G tm h t a x := rfl
theorem operD_binOp (op : BinOp) (t : TypeId) (x y : Operand) (u : TypeId) : operD (.binOp op t x y u) P G tm h = o2 G tm h x y (binOp P h t (isConst x || isConst y) op) := rfl
theorem operD_unOp (op : UnOp) (t : TypeId) (x : Operand) : operD (.unOp op t x) P G tm h = o1 G tm h x (unOp op) := rfl
theorem operD_convert (s d : TypeId) (x : Operand) : operD (.convert s d x) P G tm h = o1 G tm h x (convert P s d h) := rfl
theorem operD_slice (t : TypeId) (x : Operand) (lo hi mx : Option Operand) : operD (.slice t x lo hi mx) P G tm h = oSlice P G tm h t x lo hi mx := rfl
theorem operD_indexAddr (t : TypeId) (x i : Operand) : operD (.indexAddr t x i) P G tm h = o2 G tm h x i (indexAddr P h t) := rfl
theorem operD_index (t : TypeId) (x i : Operand) : operD (.index t x i) P G tm h = o2 G tm h x i (index P t) := rfl
theorem operD_extract (x : Operand) (i : Nat) : operD (.extract x i) P G tm h = o1 G tm h x (extract i) := rfl
theorem operD_call (c : Call) : operD (.call c) P G tm h = oCall P G tm h c := rfl
theorem operD_alloc (e : TypeId) : operD (.alloc e) P G tm h = oAlloc P h e := rfl
theorem operD_box (e : TypeId) (x : Operand) : operD (.box e x) P G tm h = oBox G tm h e x := rfl
theorem operD_makeFunc (f : Fn) (a b : Array Operand) : operD (.makeFunc f a b) P G tm h = oMakeFunc G tm h f a b := rfl
theorem operD_buildSlice (t : TypeId) (n : Nat) (ps : Array (Nat × Operand)) : operD (.buildSlice t n ps) P G tm h = oBuildSlice P G tm h t n ps := rfl
theorem operD_range (t : TypeId) (x : Operand) : operD (.range t x) P G tm h = oRange P G tm h t x := rfl
theorem operD_next (x : Operand) (s : Bool) : operD (.next x s) P G tm h = oNext G tm h x s := rfl

theorem ofOpt_some (v : V) : ofOpt h (some v) = .val v h := rfl
theorem o1_def (x : Operand) (f : V → Option V) : o1 G tm h x f = match ev G tm x with
    | some v => ofOpt h (f v)
    | none => .stuck := by unfold o1; cases ev G tm x <;> rfl
theorem o2_def (x y : Operand) (f : V → V → Option V) : o2 G tm h x y f = match ev G tm x with
    | some v => (match ev G tm y with
      | some w => ofOpt h (f v w)
      | none => .stuck)
    | none => .stuck := by
  unfold o2
  cases ev G tm x with
  | none => rfl
  | some v => cases hy : ev G tm y <;> simp only [hy]

theorem oPick_def (c a b : Operand) : oPick G tm h c a b = match ev G tm c with
    | some (.bool true) => ofOpt h (ev G tm a)
    | some (.bool false) => ofOpt h (ev G tm b)
    | _ => .stuck := by
  unfold oPick
  cases ev G tm c with
  | none => rfl
  | some v => cases v <;> first | rfl | (rename_i t; cases t <;> rfl)
theorem binOp_int (t : TypeId) (c : Bool) (op : BinOp) (k : IntKind) (a b : Int) : binOp P h t c op (.int k a) (.int k b) = intOp op k a b := by
  change (bif isShift op || kindEq k k then intOp op k a b else none) = _
  rw [(kindEq_iff k k).2 rfl]; simp
theorem binOp_str (t : TypeId) (c : Bool) (op : BinOp) (a b : List UInt8) : binOp P h t c op (.str a) (.str b) = strOp op a b := rfl
theorem intOp_add (k : IntKind) (a b : Int) : intOp .add k a b = okInt k (a + b) := rfl
theorem intOp_sub (k : IntKind) (a b : Int) : intOp .sub k a b = okInt k (a - b) := rfl
theorem intOp_eql (k : IntKind) (a b : Int) : intOp .eql k a b = some (.bool (decide (a = b))) := by
  change some (V.bool (ieq a b)) = _; rw [ieq_eq]; rfl
theorem intOp_neq (k : IntKind) (a b : Int) : intOp .neq k a b = some (.bool (!decide (a = b))) := by
  change some (V.bool (!ieq a b)) = _; rw [ieq_eq]; rfl
theorem intOp_lss (k : IntKind) (a b : Int) : intOp .lss k a b = some (.bool (decide (a < b))) := by
  change some (V.bool (ilt a b)) = _; rw [ilt_eq]
theorem intOp_leq (k : IntKind) (a b : Int) : intOp .leq k a b = some (.bool (decide (a ≤ b))) := by
  change some (V.bool (ile a b)) = _; rw [ile_eq]
theorem intOp_gtr (k : IntKind) (a b : Int) : intOp .gtr k a b = some (.bool (decide (b < a))) := by
  change some (V.bool (ilt b a)) = _; rw [ilt_eq]
theorem intOp_geq (k : IntKind) (a b : Int) : intOp .geq k a b = some (.bool (decide (b ≤ a))) := by
  change some (V.bool (ile b a)) = _; rw [ile_eq]
/-- A sum that is in range. -/
theorem okInt64 {n : Int} (h1 : -9223372036854775808 ≤ n) (h2 : n ≤ 9223372036854775807) : okInt .i64 n = some (.int .i64 n) := by
  rw [okInt_eq, wrap_of_holds]
  · exact h1
  · exact h2
theorem beq_eq_decide (a b : List UInt8) : (a == b) = decide (a = b) := by rw [Bool.eq_iff_iff]; simp
theorem strOp_eql (a b : List UInt8) : strOp .eql a b = some (.bool (decide (a = b))) := by
  change some (V.bool (strEq a b)) = _; rw [strEq_eq, beq_eq_decide]
theorem strOp_neq (a b : List UInt8) : strOp .neq a b = some (.bool (!decide (a = b))) := by
  change some (V.bool (!strEq a b)) = _; rw [strEq_eq, beq_eq_decide]
theorem strOp_add {a b : List UInt8} (h : a.length + b.length ≤ room) : strOp .add a b = some (.str (a ++ b)) := by
  change (bif Nat.ble (Nat.add (List.len a) (List.len b)) room then some (V.str (List.app a b)) else none) = _
  rw [List.len_eq, List.len_eq, List.app_eq]
  have : Nat.ble (Nat.add a.length b.length) room = true := by rw [Nat.ble_eq]; exact h
  rw [this]; rfl
theorem unOp_not (b : Bool) : unOp .not (.bool b) = some (.bool (!b)) := rfl

theorem natI_nat (k : IntKind) (n : Nat) : natI (.int k (n : Int)) = some n := rfl
theorem index_str {t : TypeId} {s : List UInt8} {k : IntKind} {i : Nat} (ht : isStrT P t = true) (hi : i < s.length) : index P t (.str s) (.int k (i : Int)) = some (.int .u8 (s[i].toNat : Nat)) := by
  change (match List.at s i with | some b => bif isStrT P t then some (byteV b) else none | none => none) = _
  rw [List.at_eq, List.getElem?_eq_getElem hi, ht]; rfl

theorem oCall_def (c : Call) : oCall P G tm h c = match mapO (ev G tm) c.args.toList with
  | none => .stuck
  | some args => match c.callee with
    | .builtin b => (match b with
      | .recover => .recover h
      | b => builtin P b c.argTypes.toList h args)
    | .value f => (match ev G tm f with
      | some f => callV P h f args
      | none => .stuck)
    | .invoke _ _ => .stuck := rfl
theorem len_str {t : TypeId} {s : List UInt8} (ht : isStrT P t = true) : builtin P .len [t] h [.str s] = .val (.int .i64 (s.length : Int)) h := by
  change (match lenOf P t h (.str s) with | some n => Rs.val (.int .i64 (Int.ofNat n)) h | none => .stuck) = _
  change (match (bif isStrT P t then some (List.len s) else none) with | some n => Rs.val (.int .i64 (Int.ofNat n)) h | none => .stuck) = _
  rw [ht, List.len_eq]; rfl
theorem len_gsl {t : TypeId} {sz : Nat} {es : List V} {c : Option Nat} (ht : isSliceT P t = true) : builtin P .len [t] h [.gsl sz es c] = .val (.int .i64 (es.length : Int)) h := by
  change (match (bif isSliceT P t then some (List.len es) else none) with | some n => Rs.val (.int .i64 (Int.ofNat n)) h | none => .stuck) = _
  rw [ht, List.len_eq]; rfl
theorem len_sl {t : TypeId} {r v o n : Nat} {c : Option Nat} (ht : isSliceT P t = true) : builtin P .len [t] h [.sl r v o n c] = .val (.int .i64 (n : Int)) h := by
  change (match (bif isSliceT P t then some n else none) with | some n => Rs.val (.int .i64 (Int.ofNat n)) h | none => .stuck) = _
  rw [ht]; rfl
theorem callV_fn (g : FuncId) (args : List V) : callV P h (.func (.func g) [] []) args = .call g args h := by
  change Rs.call g (List.app (List.app [] args) []) h = _
  rw [List.app_eq, List.app_eq]; simp
theorem callV_cap (g : FuncId) (cap args : List V) : callV P h (.func (.func g) [] cap) args = .call g (args ++ cap) h := by
  change Rs.call g (List.app (List.app [] args) cap) h = _
  rw [List.app_eq, List.app_eq]; simp
/-- An element of a slice in a row of its own. -/
theorem indexAddr_sl {t e ty : TypeId} {r ver o n pub sz : Nat} {c cap : Option Nat} {k : IntKind} {i : Nat} {es : List V} (ht : sliceElem P t = some e) (hs : size P e = sz) (hz : 1 ≤ sz) (hr : h.get r = .row ver ty sz pub cap es) (hi : i < n) :
    indexAddr P h t (.sl r ver o n c) (.int k (i : Int)) = some (.ptr r ver ((o + i) * sz)) := by
  change (match sliceElem P t with | some e => bif Nat.blt i n && Nat.ble 1 (size P e) && Nat.beq (rowSz h r) (size P e) then some (V.ptr r ver (Nat.mul (Nat.add o i) (size P e))) else none | none => none) = _
  rw [ht]
  have e1 : Nat.blt i n = true := by rw [Nat.blt_eq]; exact hi
  have e2 : Nat.ble 1 sz = true := by rw [Nat.ble_eq]; exact hz
  have e3 : rowSz h r = sz := by unfold rowSz; rw [hr]
  simp only [hs, e1, e2, e3, Nat.beq_refl]
  rfl
theorem indexAddr_gsl {t e : TypeId} {sz : Nat} {c : Option Nat} {k : IntKind} {i : Nat} {es : List V} (ht : sliceElem P t = some e) (hs : size P e = sz) (hi : i < es.length) :
    indexAddr P h t (.gsl sz es c) (.int k (i : Int)) = some (.gptr sz es (i * sz)) := by
  change (match sliceElem P t with | some e => bif Nat.blt i (List.len es) && Nat.beq sz (size P e) then some (V.gptr sz es (Nat.mul i sz)) else none | none => none) = _
  rw [ht, List.len_eq]
  have e1 : Nat.blt i es.length = true := by rw [Nat.blt_eq]; exact hi
  simp only [hs, e1, Nat.beq_refl]
  rfl

/-- A text read from a row of texts. -/
theorem load_one {t ty : TypeId} {r ver i pub : Nat} {cap : Option Nat} {es : List V} {v : V} (ha : aggOf P t = some false) (hs : size P t = 1) (hr : h.get r = .row ver ty 1 pub cap es) (hi : es[i]? = some v) (hv : v.cells = [v]) : load P h t (.ptr r ver i) = some v := by
  change (match h.get r with | .row ver' _ sz _ _ es => bif Nat.beq ver ver' then packO P t (cellsAt sz es i (size P t)) else none | _ => none) = _
  rw [hr]
  change (bif Nat.beq ver ver then packO P t (cellsAt 1 es i (size P t)) else none) = _
  rw [Nat.beq_refl, hs]
  change packO P t (match List.at es i with | none => none | some e => some e.cells) = _
  rw [List.at_eq, hi]
  change pack P t v.cells = _
  rw [hv]
  unfold pack
  rw [ha]
theorem load_gone {t : TypeId} {i : Nat} {es : List V} {v : V} (ha : aggOf P t = some false) (hs : size P t = 1) (hi : es[i]? = some v) (hv : v.cells = [v]) : load P h t (.gptr 1 es i) = some v := by
  change packO P t (cellsAt 1 es i (size P t)) = _
  rw [hs]
  change packO P t (match List.at es i with | none => none | some e => some e.cells) = _
  rw [List.at_eq, hi]
  change pack P t v.cells = _
  rw [hv]
  unfold pack
  rw [ha]

theorem pub_str (n : Nat) (s : List UInt8) : pub [] (n + 1) h (.str s) = some (.str s, h) := rfl
theorem pub_int (n : Nat) (k : IntKind) (i : Int) : pub [] (n + 1) h (.int k i) = some (.int k i, h) := rfl
end Go.AM
