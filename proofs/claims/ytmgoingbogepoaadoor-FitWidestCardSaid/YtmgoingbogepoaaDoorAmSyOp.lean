/-
  OPERATIONS OVER UNKNOWN DATA: what they come to, and what they ask for; a region's operations, run.
-/
import Derived.Test.YtmgoingbogepoaaDoorAmSy
namespace Go.AM
open Go.RowKit

variable {P : Program} {E : Env}

/-- What an operation comes to, if what it asks for is so. -/
inductive So where
  | val (v : V) (h : Heap)
  | obl (v : V) (h : Heap) (φ : Prop)
  | skip (h : Heap)
  | no

def So.ok (r : Rs) : So → Prop
  | .val v h => r = .val v h
  | .obl v h φ => φ → r = .val v h
  | .skip h => r = .skip h
  | .no => True

def inK (k : IntKind) (n : Int) : Prop :=
  match k with
  | .i8 => -128 ≤ n ∧ n ≤ 127
  | .i16 => -32768 ≤ n ∧ n ≤ 32767
  | .i32 => -2147483648 ≤ n ∧ n ≤ 2147483647
  | .i64 => -9223372036854775808 ≤ n ∧ n ≤ 9223372036854775807
  | .u8 => 0 ≤ n ∧ n ≤ 255
  | .u16 => 0 ≤ n ∧ n ≤ 65535
  | .u32 => 0 ≤ n ∧ n ≤ 4294967295
  | .u64 => 0 ≤ n ∧ n ≤ 18446744073709551615

def ofRs (r : Rs) : So :=
  match r with
  | .val v h => .val v h
  | .skip h => .skip h
  | _ => .no
def ofO (h : Heap) (o : Option V) : So :=
  match o with
  | some v => .val v h
  | none => .no

/-- A text's byte, a text's part. -/
def byteAt (s : List UInt8) (i : Int) : Int := ((s.getD i.toNat 0).toNat : Int)

noncomputable def intS (h : Heap) (op : BinOp) (k : IntKind) (a b : Int) : So :=
  match op with
  | .add => .obl (.int k (a + b)) h (inK k (a + b))
  | .sub => .obl (.int k (a - b)) h (inK k (a - b))
  | .mul => .obl (.int k (a * b)) h (inK k (a * b))
  | .quo => .obl (.int k (a / b)) h (0 ≤ a ∧ 0 < b ∧ inK k (a / b))
  | .rem => .obl (.int k (a % b)) h (0 ≤ a ∧ 0 < b)
  | .eql => .val (.bool (decide (a = b))) h
  | .neq => .val (.bool (!decide (a = b))) h
  | .lss => .val (.bool (decide (a < b))) h
  | .leq => .val (.bool (decide (a ≤ b))) h
  | .gtr => .val (.bool (decide (b < a))) h
  | .geq => .val (.bool (decide (b ≤ a))) h
  | op => ofO h (intOp op k a b)
noncomputable def strS (h : Heap) (op : BinOp) (a b : List UInt8) : So :=
  match op with
  | .add => .obl (.str (a ++ b)) h (a.length + b.length ≤ 1099511627776)
  | .eql => .val (.bool (decide (a = b))) h
  | .neq => .val (.bool (!decide (a = b))) h
  | op => ofO h (strOp op a b)
noncomputable def binS (P : Program) (h : Heap) (t : TypeId) (c : Bool) (op : BinOp) (x y : V) : So :=
  match x with
  | .int k a => match y with
    | .int k' b => bif isShift op then ofO h (intOp op k a b) else bif kindEq k k' then intS h op k a b else .no
    | _ => .no
  | .str a => match y with
    | .str b => strS h op a b
    | _ => .no
  | x => ofO h (binOp P h t c op x y)
noncomputable def unS (h : Heap) (op : UnOp) (x : V) : So :=
  match x with
  | .int k n => match op with
    | .neg => .obl (.int k (-n)) h (inK k (-n))
    | op => ofO h (unOp op (.int k n))
  | x => ofO h (unOp op x)
noncomputable def indexS (P : Program) (h : Heap) (t : TypeId) (x i : V) : So :=
  match x with
  | .str s => match i with
    | .int _ j => bif isStrT P t then .obl (.int .u8 (byteAt s j)) h (0 ≤ j ∧ j < s.length) else .no
    | _ => .no
  | x => ofO h (index P t x i)
noncomputable def indexAddrS (P : Program) (h : Heap) (t : TypeId) (x i : V) : So :=
  match x with
  | .sl r ver o n _ => match i with
    | .int _ j => match sliceElem P t with
      | some e => bif Nat.ble 1 (size P e) && Nat.beq (rowSz h r) (size P e) then .obl (.ptr r ver ((o + j.toNat) * size P e)) h (0 ≤ j ∧ j < n) else .no
      | none => .no
    | _ => .no
  | .gsl sz es _ => match i with
    | .int _ j => match sliceElem P t with
      | some e => bif Nat.beq sz (size P e) then .obl (.gptr sz es (j.toNat * sz)) h (0 ≤ j ∧ j < es.length) else .no
      | none => .no
    | _ => .no
  | x => ofO h (indexAddr P h t x i)
/-- The bound of a slice expression, if there is one; none: it can't be told. -/
def boundS : Option V → Option (Option Int)
  | none => some none
  | some (.int _ n) => some (some n)
  | _ => none
noncomputable def sliceStr (h : Heap) (s : List UInt8) (lo hi : Option Int) : So :=
  match lo with
  | none => match hi with
    | none => .val (.str s) h
    | some b => .obl (.str (s.take b.toNat)) h (0 ≤ b ∧ b ≤ s.length)
  | some a => match hi with
    | none => .obl (.str (s.drop a.toNat)) h (0 ≤ a ∧ a ≤ s.length)
    | some b => .obl (.str ((s.take b.toNat).drop a.toNat)) h (0 ≤ a ∧ a ≤ b ∧ b ≤ s.length)
def subC (c : Option Nat) (k : Nat) : Option Nat :=
  match c with
  | some c => some (c - k)
  | none => none
noncomputable def sliceGsl (h : Heap) (sz : Nat) (es : List V) (c : Option Nat) (lo hi : Option Int) : So :=
  match lo with
  | none => match hi with
    | none => .val (.gsl sz es c) h
    | some b => .obl (.gsl sz (es.take b.toNat) c) h (0 ≤ b ∧ b ≤ es.length)
  | some a => match hi with
    | none => .obl (.gsl sz (es.drop a.toNat) (subC c a.toNat)) h (0 ≤ a ∧ a ≤ es.length)
    | some b => .obl (.gsl sz ((es.take b.toNat).drop a.toNat) (subC c a.toNat)) h (0 ≤ a ∧ a ≤ b ∧ b ≤ es.length)
noncomputable def sliceOwn (h : Heap) (r ver o n : Nat) (c : Option Nat) (lo hi : Option Int) : So :=
  match lo with
  | none => match hi with
    | none => .val (.sl r ver o n c) h
    | some b => .obl (.sl r ver o b.toNat c) h (0 ≤ b ∧ b ≤ n)
  | some a => match hi with
    | none => .obl (.sl r ver (o + a.toNat) (n - a.toNat) (subC c a.toNat)) h (0 ≤ a ∧ a ≤ n)
    | some b => .obl (.sl r ver (o + a.toNat) (b.toNat - a.toNat) (subC c a.toNat)) h (0 ≤ a ∧ a ≤ b ∧ b ≤ n)
noncomputable def sliceS (P : Program) (h : Heap) (t : TypeId) (x : V) (lo hi mx : Option V) : So :=
  match mx with
  | some _ => ofO h (slice P h t x lo hi mx)
  | none => match boundS lo with
    | none => .no
    | some lo' => match boundS hi with
      | none => .no
      | some hi' => match x with
        | .str s => bif isStrT P t then sliceStr h s lo' hi' else .no
        | .gsl sz es c => match sliceElem P t with
          | some el => bif Nat.beq (size P el) sz then sliceGsl h sz es c lo' hi' else .no
          | none => .no
        | .sl r ver o n c => match sliceElem P t with
          | some el => bif Nat.ble 1 (size P el) && Nat.beq (rowSz h r) (size P el) then sliceOwn h r ver o n c lo' hi' else .no
          | none => .no
        | x => ofO h (slice P h t x lo hi none)
noncomputable def convS (P : Program) (h : Heap) (s d : TypeId) (x : V) : So :=
  match x with
  | .int _ n => match P.underlying s with
    | none => .no
    | some _ => match P.underlying d with
      | some (.int k) => .obl (.int k n) h (inK k n)
      | _ => ofO h (convert P s d h x)
  | x => ofO h (convert P s d h x)
noncomputable def lenS (P : Program) (t : TypeId) (h : Heap) (x : V) : So :=
  match x with
  | .str s => bif isStrT P t then .val (.int .i64 (s.length : Int)) h else .no
  | .gsl _ es _ => bif isSliceT P t then .val (.int .i64 (es.length : Int)) h else .no
  | .sl _ _ _ n _ => bif isSliceT P t then .val (.int .i64 (n : Int)) h else .no
  | x => ofRs (builtin P .len [t] h [x])
noncomputable def maxS (h : Heap) (x y : V) (d : Rs) : So :=
  match x with
  | .int k a => match y with
    | .int _ b => .val (.int k (max a b)) h
    | _ => ofRs d
  | _ => ofRs d
noncomputable def minS (h : Heap) (x y : V) (d : Rs) : So :=
  match x with
  | .int k a => match y with
    | .int _ b => .val (.int k (min a b)) h
    | _ => ofRs d
  | _ => ofRs d
/-- What is appended. -/
noncomputable def newS (_P : Program) (h : Heap) (sz : Nat) (y : V) : Option (List V) :=
  match y with
  | .gsl sz' es _ => bif Nat.beq sz sz' then some es else none
  | y => appended h sz y
/-- append: onto a row of one's own that ends where the slice does; onto none; onto data that has no room left. -/
noncomputable def appendS (P : Program) (t : TypeId) (h : Heap) (x y : V) (d : Rs) : So :=
  match sliceElem P t with
  | none => .no
  | some e => match newS P h (size P e) y with
    | none => .no
    | some new => bif Nat.beq (size P e) 0 || !(zeroOk P e) then .no else
      match x with
      | .sl r ver o n c => match c with
        | some _ => ofRs d
        | none => match h.get r with
          | .row ver' ty sz' pub cap es => match cap with
            | some _ => ofRs d
            | none => bif Nat.beq (size P e) sz' && Nat.beq o 0 && Nat.beq ty e then
                .obl (.sl r (Nat.succ ver) 0 (n + new.length) none) (h.set r (.row (Nat.succ ver) ty sz' pub none (es ++ new)))
                  (ver = ver' ∧ new ≠ [] ∧ n = es.length ∧ pub ≤ n ∧ n + new.length ≤ 1099511627776 ∧ (n + new.length) * P.bytesOf e ≤ 1099511627776)
              else .no
          | _ => .no
      | .nils => .obl (.sl h.n 0 0 new.length none) (newRow h e (size P e) 0 none new) (new ≠ [] ∧ new.length ≤ 1099511627776 ∧ new.length * P.bytesOf e ≤ 1099511627776)
      | .gsl sz' es c => match c with
        | some c => bif Nat.beq (size P e) sz' then .obl (.sl h.n 0 0 (es.length + new.length) none) (newRow h e sz' 0 none (es ++ new)) (new ≠ [] ∧ c < es.length + new.length ∧ es.length + new.length ≤ 1099511627776 ∧ (es.length + new.length) * P.bytesOf e ≤ 1099511627776) else .no
        | none => .no
      | _ => .no
noncomputable def builtinS (P : Program) (b : Builtin) (ts : List TypeId) (h : Heap) (args : List V) : So :=
  match b with
  | .len => match ts with
    | [t] => (match args with
      | [x] => lenS P t h x
      | _ => .no)
    | _ => .no
  | .max => match ts with
    | _ :: _ => (match args with
      | [x, y] => maxS h x y (builtin P .max ts h [x, y])
      | args => ofRs (builtin P .max ts h args))
    | _ => .no
  | .min => match ts with
    | _ :: _ => (match args with
      | [x, y] => minS h x y (builtin P .min ts h [x, y])
      | args => ofRs (builtin P .min ts h args))
    | _ => .no
  | .append => match ts with
    | [t, u] => (match args with
      | [x, y] => bif notIntT P u then appendS P t h x y (builtin P .append ts h [x, y]) else .no
      | _ => .no)
    | _ => .no
  | .recover => .no
  | b => ofRs (builtin P b ts h args)

noncomputable def pickS (h : Heap) (c : Bool) (a b : V) : So :=
  match a with
  | .int k x => match b with
    | .int k' y => bif kindEq k k' then .val (.int k (bif c then x else y)) h else ofO h (Bool.rec (some b) (some a) c)
    | b => ofO h (Bool.rec (some b) (some a) c)
  | .bool x => match b with
    | .bool y => .val (.bool (bif c then x else y)) h
    | b => ofO h (Bool.rec (some b) (some a) c)
  | .str x => match b with
    | .str y => .val (.str (bif c then x else y)) h
    | b => ofO h (Bool.rec (some b) (some a) c)
  | a => ofO h (Bool.rec (some b) (some a) c)

noncomputable def s1 (G : Nat → Option V) (tm : T V) (x : Operand) (f : V → So) : So :=
  match ev G tm x with
  | some v => f v
  | none => .no
noncomputable def s2 (G : Nat → Option V) (tm : T V) (x y : Operand) (f : V → V → So) : So :=
  match ev G tm x with
  | some v => (match ev G tm y with
    | some w => f v w
    | none => .no)
  | none => .no

/-- A call that has a contract. -/
noncomputable def primS (E : Env) (f : FuncId) (args : List V) (h : Heap) : Option (V × Heap) :=
  bif E.shared f then none else
  match pubL (pub [] depth) args h with
  | none => none
  | some (gs, h1) => match E.prim f gs with
    | some v => some (thaw h1 v)
    | none => none

noncomputable def operS (lit : Bool) (P : Program) (G : Nat → Option V) (tm : T V) (h : Heap) (o : Oper) : So :=
  match o.op with
  | .binOp op t x y _ => s2 G tm x y (binS P h t (isConst x || isConst y) op)
  | .unOp op _ x => s1 G tm x (unS h op)
  | .index t x i => s2 G tm x i (indexS P h t)
  | .indexAddr t x i => s2 G tm x i (indexAddrS P h t)
  | .convert s d x => s1 G tm x (convS P h s d)
  | .pick c a b => match ev G tm c with
    | some (.bool t) => s2 G tm a b (pickS h t)
    | _ => .no
  | .slice t x lo hi mx => s1 G tm x fun x => match evO G tm lo with
    | none => .no
    | some lo => match evO G tm hi with
      | none => .no
      | some hi => match evO G tm mx with
        | none => .no
        | some mx => sliceS P h t x lo hi mx
  | .call c => match c.callee with
    | .builtin b => match mapO (ev G tm) c.args.toList with
      | none => .no
      | some args => builtinS P b c.argTypes.toList h args
    | _ => ofRs (operE lit P G tm h o)
  | _ => ofRs (operE lit P G tm h o)

theorem ofRs_ok (r : Rs) : So.ok r (ofRs r) := by cases r <;> first | rfl | trivial
theorem ofO_ok (h : Heap) (o : Option V) : So.ok (ofOpt h o) (ofO h o) := by cases o <;> first | rfl | trivial
theorem okInt_in {k : IntKind} {n : Int} (h : inK k n) : okInt k n = some (.int k n) := by
  rw [okInt_eq, wrap_of_holds]
  · cases k <;> exact h.1
  · cases k <;> exact h.2
theorem ieq_pos {b : Int} (h : 0 < b) : ieq b 0 = false := by
  rw [ieq_eq, beq_eq_false_iff_ne]; omega
theorem intS_ok (h : Heap) (op : BinOp) (k : IntKind) (a b : Int) : So.ok (ofOpt h (intOp op k a b)) (intS h op k a b) := by
  cases op with
  | add => intro hk; change ofOpt h (okInt k (a + b)) = _; rw [okInt_in hk]; rfl
  | sub => intro hk; change ofOpt h (okInt k (a - b)) = _; rw [okInt_in hk]; rfl
  | mul => intro hk; change ofOpt h (okInt k (a * b)) = _; rw [okInt_in hk]; rfl
  | quo =>
    rintro ⟨h1, h2, h3⟩
    change ofOpt h (Bool.rec (okInt k (a.tdiv b)) none (ieq b 0)) = _
    rw [ieq_pos h2, Int.tdiv_eq_ediv_of_nonneg h1, okInt_in h3]; rfl
  | rem =>
    rintro ⟨h1, h2⟩
    change ofOpt h (Bool.rec (forceI k (a.tmod b)) none (ieq b 0)) = _
    rw [ieq_pos h2, Int.tmod_eq_emod_of_nonneg h1, forceI_eq]; rfl
  | eql => change ofOpt h (intOp .eql k a b) = _; rw [intOp_eql]; rfl
  | neq => change ofOpt h (intOp .neq k a b) = _; rw [intOp_neq]; rfl
  | lss => change ofOpt h (intOp .lss k a b) = _; rw [intOp_lss]; rfl
  | leq => change ofOpt h (intOp .leq k a b) = _; rw [intOp_leq]; rfl
  | gtr => change ofOpt h (intOp .gtr k a b) = _; rw [intOp_gtr]; rfl
  | geq => change ofOpt h (intOp .geq k a b) = _; rw [intOp_geq]; rfl
  | _ => exact ofO_ok h _
theorem strS_ok (h : Heap) (op : BinOp) (a b : List UInt8) : So.ok (ofOpt h (strOp op a b)) (strS h op a b) := by
  cases op with
  | add => intro hk; rw [strOp_add (a := a) (b := b) hk]; rfl
  | eql => change ofOpt h (strOp .eql a b) = _; rw [strOp_eql]; rfl
  | neq => change ofOpt h (strOp .neq a b) = _; rw [strOp_neq]; rfl
  | _ => exact ofO_ok h _
theorem binS_ok (h : Heap) (t : TypeId) (c : Bool) (op : BinOp) (x y : V) : So.ok (ofOpt h (binOp P h t c op x y)) (binS P h t c op x y) := by
  cases x with
  | int k a =>
    cases y with
    | int k' b =>
      change So.ok (ofOpt h (bif isShift op || kindEq k k' then intOp op k a b else none)) (bif isShift op then ofO h (intOp op k a b) else bif kindEq k k' then intS h op k a b else .no)
      cases h1 : isShift op with
      | true => exact ofO_ok h _
      | false =>
        cases h2 : kindEq k k' with
        | true => exact intS_ok h op k a b
        | false => trivial
    | _ => trivial
  | str a =>
    cases y with
    | str b => exact strS_ok h op a b
    | _ => trivial
  | _ => exact ofO_ok h _
theorem unS_ok (h : Heap) (op : UnOp) (x : V) : So.ok (ofOpt h (unOp op x)) (unS h op x) := by
  cases x with
  | int k n =>
    cases op with
    | neg =>
      intro hk
      change ofOpt h (okInt k (0 - n)) = _
      rw [Int.zero_sub, okInt_in hk]; rfl
    | _ => exact ofO_ok h _
  | _ => exact ofO_ok h _
theorem natI_in {k : IntKind} {j : Int} (h : 0 ≤ j) : natI (.int k j) = some j.toNat := by
  cases j with
  | ofNat n => rfl
  | negSucc n => exact absurd h (by omega)
theorem getD_at {s : List UInt8} {i : Nat} (h : i < s.length) : s[i]? = some (s.getD i 0) := by
  rw [List.getElem?_eq_getElem h, List.getD_eq_getElem?_getD, List.getElem?_eq_getElem h]; rfl
theorem indexS_ok (h : Heap) (t : TypeId) (x i : V) : So.ok (ofOpt h (index P t x i)) (indexS P h t x i) := by
  cases x with
  | str s =>
    cases i with
    | int k j =>
      change So.ok _ (bif isStrT P t then .obl (.int .u8 (byteAt s j)) h (0 ≤ j ∧ j < s.length) else .no)
      cases ht : isStrT P t with
      | false => trivial
      | true =>
        rintro ⟨h1, h2⟩
        have hi : j.toNat < s.length := by omega
        have e : index P t (.str s) (.int k j) = some (byteV (s.getD j.toNat 0)) := by
          unfold index
          rw [natI_in h1]
          change (match List.at s j.toNat with | some b => bif isStrT P t then some (byteV b) else none | none => none) = _
          rw [List.at_eq, getD_at hi, ht]; rfl
        rw [e]; rfl
    | _ => trivial
  | _ => exact ofO_ok h _
theorem indexAddrS_ok (h : Heap) (t : TypeId) (x i : V) : So.ok (ofOpt h (indexAddr P h t x i)) (indexAddrS P h t x i) := by
  cases x with
  | sl r ver o n c =>
    cases i with
    | int k j =>
      unfold indexAddrS
      simp only
      cases hs : sliceElem P t with
      | none => trivial
      | some e =>
        simp only
        cases hb : (Nat.ble 1 (size P e) && Nat.beq (rowSz h r) (size P e)) with
        | false => trivial
        | true =>
          rintro ⟨h1, h2⟩
          have e1 : Nat.blt j.toNat n = true := by rw [Nat.blt_eq]; omega
          simp only [Bool.and_eq_true] at hb
          have e : indexAddr P h t (.sl r ver o n c) (.int k j) = some (.ptr r ver ((o + j.toNat) * size P e)) := by
            unfold indexAddr
            rw [natI_in h1]
            simp only [hs, e1, hb.1, hb.2, Bool.and_self, cond_true]
            rfl
          rw [e]; rfl
    | _ => trivial
  | gsl sz es c =>
    cases i with
    | int k j =>
      unfold indexAddrS
      simp only
      cases hs : sliceElem P t with
      | none => trivial
      | some e =>
        simp only
        cases hb : Nat.beq sz (size P e) with
        | false => trivial
        | true =>
          rintro ⟨h1, h2⟩
          have e1 : Nat.blt j.toNat (List.len es) = true := by rw [Nat.blt_eq, List.len_eq]; omega
          have e : indexAddr P h t (.gsl sz es c) (.int k j) = some (.gptr sz es (j.toNat * sz)) := by
            unfold indexAddr
            rw [natI_in h1]
            simp only [hs, e1, hb, Bool.and_self, cond_true]
            rfl
          rw [e]; rfl
    | _ => trivial
  | _ => exact ofO_ok h _

theorem boundOf_none (d : Nat) : boundOf d none = some d := rfl
theorem boundOf_in {d : Nat} {k : IntKind} {j : Int} (h : 0 ≤ j) : boundOf d (some (.int k j)) = some j.toNat := by
  cases j with
  | ofNat n => rfl
  | negSucc n => exact absurd h (by omega)
theorem boundS_some {o : Option V} {a : Int} (h : boundS o = some (some a)) : ∃ k, o = some (.int k a) := by
  unfold boundS at h
  split at h
  · cases h
  · cases h; exact ⟨_, rfl⟩
  · cases h
theorem boundS_none {o : Option V} (h : boundS o = some none) : o = none := by
  unfold boundS at h
  split at h
  · rfl
  · cases h
  · cases h
theorem slice_str {h : Heap} {t : TypeId} {s : List UInt8} {lo hi : Option V} {l e : Nat} (h1 : boundOf 0 lo = some l) (h2 : boundOf s.length hi = some e) (ht : isStrT P t = true) (hle : l ≤ e) (hel : e ≤ s.length) : slice P h t (.str s) lo hi none = some (.str ((s.take e).drop l)) := by
  unfold slice
  rw [h1]
  simp only [List.len_eq, h2, ht, List.takeN_eq, List.dropN_eq, Bool.true_and]
  have e1 : Nat.ble l e = true := by rw [Nat.ble_eq]; exact hle
  have e2 : Nat.ble e s.length = true := by rw [Nat.ble_eq]; exact hel
  rw [e1, e2]; rfl
theorem slice_gsl {h : Heap} {t el : TypeId} {sz : Nat} {es : List V} {c : Option Nat} {lo hi : Option V} {l e : Nat} (h1 : boundOf 0 lo = some l) (h2 : boundOf es.length hi = some e) (ht : sliceElem P t = some el) (hz : Nat.beq (size P el) sz = true) (hle : l ≤ e) (hel : e ≤ es.length) : slice P h t (.gsl sz es c) lo hi none = some (.gsl sz ((es.take e).drop l) (subO c l)) := by
  unfold slice
  rw [h1]
  simp only [List.len_eq, h2, ht, hz, cond_true]
  unfold sliceG
  simp only [List.len_eq, List.takeN_eq, List.dropN_eq]
  have e1 : Nat.ble l e = true := by rw [Nat.ble_eq]; exact hle
  have e2 : Nat.ble e es.length = true := by rw [Nat.ble_eq]; exact hel
  rw [e1, e2]; rfl
theorem slice_own {h : Heap} {t el : TypeId} {r ver o n : Nat} {c : Option Nat} {lo hi : Option V} {l e : Nat} (h1 : boundOf 0 lo = some l) (h2 : boundOf n hi = some e) (ht : sliceElem P t = some el) (hz : (Nat.ble 1 (size P el) && Nat.beq (rowSz h r) (size P el)) = true) (hle : l ≤ e) (hel : e ≤ n) : slice P h t (.sl r ver o n c) lo hi none = some (.sl r ver (o + l) (e - l) (subO c l)) := by
  unfold slice
  rw [h1]
  simp only [h2, ht, hz, cond_true]
  unfold sliceSl
  have e1 : Nat.ble l e = true := by rw [Nat.ble_eq]; exact hle
  have e2 : Nat.ble e n = true := by rw [Nat.ble_eq]; exact hel
  simp only [e1, e2]
  rfl
theorem subO_zero (c : Option Nat) : subO c 0 = c := by cases c <;> rfl
theorem subO_eq (c : Option Nat) (k : Nat) : subO c k = subC c k := by cases c <;> rfl
theorem drop_zero' {α : Type} (l : List α) : l.drop 0 = l := rfl
theorem sliceS_ok (h : Heap) (t : TypeId) (x : V) (lo hi mx : Option V) : So.ok (ofOpt h (slice P h t x lo hi mx)) (sliceS P h t x lo hi mx) := by
  cases mx with
  | some m => exact ofO_ok h _
  | none =>
    unfold sliceS
    simp only
    cases hlo : boundS lo with
    | none => trivial
    | some lo' =>
      simp only
      cases hhi : boundS hi with
      | none => trivial
      | some hi' =>
        simp only
        cases x with
        | str s =>
          simp only
          cases ht : isStrT P t with
          | false => trivial
          | true =>
            simp only [cond_true]
            cases lo' with
            | none =>
              have b1 := boundS_none hlo; subst b1
              cases hi' with
              | none =>
                have b2 := boundS_none hhi; subst b2
                change ofOpt h _ = _
                rw [slice_str (l := 0) (e := s.length) rfl rfl ht (Nat.zero_le _) (Nat.le_refl _), List.take_length]; rfl
              | some b =>
                obtain ⟨k, rfl⟩ := boundS_some hhi
                rintro ⟨h1, h2⟩
                rw [slice_str (l := 0) (e := b.toNat) rfl (boundOf_in h1) ht (Nat.zero_le _) (by omega)]; rfl
            | some a =>
              obtain ⟨k, rfl⟩ := boundS_some hlo
              cases hi' with
              | none =>
                have b2 := boundS_none hhi; subst b2
                rintro ⟨h1, h2⟩
                rw [slice_str (l := a.toNat) (e := s.length) (boundOf_in h1) rfl ht (by omega) (Nat.le_refl _), List.take_length]; rfl
              | some b =>
                obtain ⟨k2, rfl⟩ := boundS_some hhi
                rintro ⟨h1, h2, h3⟩
                rw [slice_str (l := a.toNat) (e := b.toNat) (boundOf_in h1) (boundOf_in (by omega)) ht (by omega) (by omega)]; rfl
        | gsl sz es c =>
          simp only
          cases ht : sliceElem P t with
          | none => trivial
          | some el =>
            simp only
            cases hz : Nat.beq (size P el) sz with
            | false => trivial
            | true =>
              simp only [cond_true]
              cases lo' with
              | none =>
                have b1 := boundS_none hlo; subst b1
                cases hi' with
                | none =>
                  have b2 := boundS_none hhi; subst b2
                  change ofOpt h _ = _
                  rw [slice_gsl (l := 0) (e := es.length) rfl rfl ht hz (Nat.zero_le _) (Nat.le_refl _), List.take_length, subO_zero]; rfl
                | some b =>
                  obtain ⟨k, rfl⟩ := boundS_some hhi
                  rintro ⟨h1, h2⟩
                  rw [slice_gsl (l := 0) (e := b.toNat) rfl (boundOf_in h1) ht hz (Nat.zero_le _) (by omega), subO_zero]; rfl
              | some a =>
                obtain ⟨k, rfl⟩ := boundS_some hlo
                cases hi' with
                | none =>
                  have b2 := boundS_none hhi; subst b2
                  rintro ⟨h1, h2⟩
                  rw [slice_gsl (l := a.toNat) (e := es.length) (boundOf_in h1) rfl ht hz (by omega) (Nat.le_refl _), List.take_length, subO_eq]; rfl
                | some b =>
                  obtain ⟨k2, rfl⟩ := boundS_some hhi
                  rintro ⟨h1, h2, h3⟩
                  rw [slice_gsl (l := a.toNat) (e := b.toNat) (boundOf_in h1) (boundOf_in (by omega)) ht hz (by omega) (by omega), subO_eq]; rfl
        | sl r ver o n c =>
          simp only
          cases ht : sliceElem P t with
          | none => trivial
          | some el =>
            simp only
            cases hz : (Nat.ble 1 (size P el) && Nat.beq (rowSz h r) (size P el)) with
            | false => trivial
            | true =>
              simp only [cond_true]
              cases lo' with
              | none =>
                have b1 := boundS_none hlo; subst b1
                cases hi' with
                | none =>
                  have b2 := boundS_none hhi; subst b2
                  change ofOpt h _ = _
                  rw [slice_own (l := 0) (e := n) rfl rfl ht hz (Nat.zero_le _) (Nat.le_refl _), subO_zero]; rfl
                | some b =>
                  obtain ⟨k, rfl⟩ := boundS_some hhi
                  rintro ⟨h1, h2⟩
                  rw [slice_own (l := 0) (e := b.toNat) rfl (boundOf_in h1) ht hz (Nat.zero_le _) (by omega), subO_zero]; rfl
              | some a =>
                obtain ⟨k, rfl⟩ := boundS_some hlo
                cases hi' with
                | none =>
                  have b2 := boundS_none hhi; subst b2
                  rintro ⟨h1, h2⟩
                  rw [slice_own (l := a.toNat) (e := n) (boundOf_in h1) rfl ht hz (by omega) (Nat.le_refl _), subO_eq]; rfl
                | some b =>
                  obtain ⟨k2, rfl⟩ := boundS_some hhi
                  rintro ⟨h1, h2, h3⟩
                  rw [slice_own (l := a.toNat) (e := b.toNat) (boundOf_in h1) (boundOf_in (by omega)) ht hz (by omega) (by omega), subO_eq]; rfl
        | _ => exact ofO_ok h _
theorem convS_ok (h : Heap) (s d : TypeId) (x : V) : So.ok (ofOpt h (convert P s d h x)) (convS P h s d x) := by
  cases x with
  | int k n =>
    unfold convS
    simp only
    cases hs : P.underlying s with
    | none => trivial
    | some us =>
      simp only
      split
      · rename_i k' hd
        intro hk
        have e : convert P s d h (.int k n) = some (.int k' n) := by
          unfold convert
          rw [hs, hd]
          change some (V.int k' (wrapI k' n)) = _
          rw [wrapI_eq]
          have := okInt_in hk
          rw [okInt_eq] at this
          exact this
        rw [e]; rfl
      · exact ofO_ok h _
  | _ => exact ofO_ok h _
theorem lenS_ok (t : TypeId) (h : Heap) (x : V) : So.ok (builtin P .len [t] h [x]) (lenS P t h x) := by
  cases x with
  | str s =>
    unfold lenS
    simp only
    cases ht : isStrT P t with
    | false => trivial
    | true => exact len_str ht
  | gsl sz es c =>
    unfold lenS
    simp only
    cases ht : isSliceT P t with
    | false => trivial
    | true => exact len_gsl ht
  | sl r ver o n c =>
    unfold lenS
    simp only
    cases ht : isSliceT P t with
    | false => trivial
    | true => exact len_sl ht
  | _ => exact ofRs_ok _
theorem max_eq' (a b : Int) : (bif ilt a b then b else a) = max a b := by
  rw [ilt_eq]
  by_cases h : a < b
  · rw [decide_eq_true h]; show b = _; omega
  · rw [decide_eq_false h]; show a = _; omega
theorem min_eq' (a b : Int) : (bif ilt b a then b else a) = min a b := by
  rw [ilt_eq]
  by_cases h : b < a
  · rw [decide_eq_true h]; show b = _; omega
  · rw [decide_eq_false h]; show a = _; omega
theorem maxS_ok {t : TypeId} {ts : List TypeId} (h : Heap) (x y : V) : So.ok (builtin P .max (t :: ts) h [x, y]) (maxS h x y (builtin P .max (t :: ts) h [x, y])) := by
  unfold maxS
  split
  · split
    · change ofOpt h (some (V.int _ (bif ilt _ _ then _ else _))) = _
      rw [max_eq']; rfl
    · exact ofRs_ok _
  · exact ofRs_ok _
theorem minS_ok {t : TypeId} {ts : List TypeId} (h : Heap) (x y : V) : So.ok (builtin P .min (t :: ts) h [x, y]) (minS h x y (builtin P .min (t :: ts) h [x, y])) := by
  unfold minS
  split
  · split
    · change ofOpt h (some (V.int _ (bif ilt _ _ then _ else _))) = _
      rw [min_eq']; rfl
    · exact ofRs_ok _
  · exact ofRs_ok _
theorem isNil_ne {α : Type} {l : List α} (h : l ≠ []) : isNil l = false := by cases l <;> first | rfl | exact absurd rfl h
theorem newS_ok {h : Heap} {sz : Nat} {y : V} {new : List V} (hn : newS P h sz y = some new) : appended h sz y = some new := by
  unfold newS at hn
  split at hn
  · rename_i sz' es c
    change (bif Nat.beq sz sz' then some es else none) = some new
    exact hn
  · exact hn
theorem freshSl_eq {h : Heap} {e sz n : Nat} {es : List V} (hz : zeroOk P e = true) (h1 : n ≤ 1099511627776) (h2 : n * P.bytesOf e ≤ 1099511627776) : freshSl P h e sz n es = .val (.sl h.n 0 0 n none) (newRow h e sz 0 none es) := by
  unfold freshSl
  have e1 : Nat.ble n room = true := by rw [Nat.ble_eq]; exact h1
  have e2 : Nat.ble (Nat.mul n (P.bytesOf e)) room = true := by rw [Nat.ble_eq]; exact h2
  rw [hz, e1, e2]; rfl
theorem append_eq {t e : TypeId} {h : Heap} {x y : V} {new : List V} (ht : sliceElem P t = some e) (hn : appended h (size P e) y = some new) (hz0 : Nat.beq (size P e) 0 = false) : append P t h x y = (bif isNil new then (match x with
            | .nils => .val x h
            | .sl _ _ _ _ _ => .val x h
            | .gsl _ _ _ => .val x h
            | _ => .stuck)
          else match x with
          | .nils => freshSl P h e (size P e) (List.len new) new
          | .gsl sz' es c => match c with
            | some c => bif Nat.beq (size P e) sz' && Nat.blt c (Nat.add (List.len es) (List.len new)) then freshSl P h e sz' (Nat.add (List.len es) (List.len new)) (List.app es new) else .stuck
            | none => .stuck
          | .sl r ver o n c => appendSl P h e (size P e) r ver o n c new (List.len new)
          | _ => .stuck) := by
  unfold append
  rw [ht]
  simp only [hn, hz0, cond_false]
  rfl
theorem appendS_ok {t u : TypeId} (h : Heap) (x y : V) (hu : notIntT P u = true) : So.ok (builtin P .append [t, u] h [x, y]) (appendS P t h x y (builtin P .append [t, u] h [x, y])) := by
  have e0 : builtin P .append [t, u] h [x, y] = append P t h x y := by
    change (bif notIntT P u then append P t h x y else .stuck) = _
    rw [hu]; rfl
  unfold appendS
  cases ht : sliceElem P t with
  | none => trivial
  | some e =>
    simp only
    cases hn : newS P h (size P e) y with
    | none => trivial
    | some new =>
      have hn := newS_ok hn
      simp only
      cases hb : (Nat.beq (size P e) 0 || !(zeroOk P e)) with
      | true => trivial
      | false =>
        simp only [Bool.or_eq_false_iff, Bool.not_eq_false'] at hb
        obtain ⟨hz0, hz⟩ := hb
        simp only [cond_false]
        have ea := append_eq (P := P) (t := t) (h := h) (x := x) ht hn hz0
        cases x with
        | sl r ver o n c =>
          simp only
          cases c with
          | some c => exact ofRs_ok _
          | none =>
            simp only
            cases hr : h.get r with
            | row ver' ty sz' pub cap es =>
              simp only
              cases cap with
              | some k => exact ofRs_ok _
              | none =>
                simp only
                cases hc : (Nat.beq (size P e) sz' && Nat.beq o 0 && Nat.beq ty e) with
                | false => trivial
                | true =>
                  rintro ⟨c1, h1, h2, h3, h4, h5⟩
                  rw [e0, ea, isNil_ne h1]
                  simp only [cond_false]
                  unfold appendSl
                  rw [hr]
                  simp only [Bool.and_eq_true, Nat.beq_eq] at hc
                  obtain ⟨⟨c2, c3⟩, c4⟩ := hc
                  subst c1 c3 c4
                  have b1 : Nat.ble (Nat.add 0 n) (List.len es) = true := by rw [Nat.ble_eq, List.len_eq]; show 0 + n ≤ _; omega
                  have b2 : Nat.ble (Nat.add n (List.len new)) room = true := by rw [Nat.ble_eq, List.len_eq]; exact h4
                  have b3 : Nat.ble (Nat.mul (Nat.add n (List.len new)) (P.bytesOf ty)) room = true := by rw [Nat.ble_eq, List.len_eq]; exact h5
                  have b4 : Nat.ble pub n = true := by rw [Nat.ble_eq]; exact h3
                  have b5 : Nat.beq (size P ty) sz' = true := by rw [Nat.beq_eq]; exact c2
                  have c2' : size P ty = sz' := c2
                  subst c2'
                  simp only [Nat.beq_refl, b1, b2, b3, b4, hz, Bool.and_self, cond_true, List.app_eq, List.takeN_eq]
                  rw [List.take_of_length_le (by omega), List.len_eq]
                  rfl
            | _ => trivial
        | nils =>
          rintro ⟨h1, h2, h3⟩
          rw [e0, ea, isNil_ne h1]
          simp only [cond_false]
          rw [List.len_eq]
          exact freshSl_eq hz h2 h3
        | gsl sz' es c =>
          simp only
          cases c with
          | none => trivial
          | some c =>
            simp only
            cases hs : Nat.beq (size P e) sz' with
            | false => trivial
            | true =>
              rintro ⟨h1, h2, h3, h4⟩
              rw [e0, ea, isNil_ne h1]
              have b1 : Nat.blt c (Nat.add es.length new.length) = true := by rw [Nat.blt_eq]; exact h2
              simp only [cond_false, cond_true, List.len_eq, hs, b1, Bool.and_self, List.app_eq]
              exact freshSl_eq hz h3 h4
        | _ => trivial
theorem builtinS_ok (b : Builtin) (ts : List TypeId) (h : Heap) (args : List V) (hb : b ≠ .recover) : So.ok (builtin P b ts h args) (builtinS P b ts h args) := by
  unfold builtinS
  split
  · split
    · split
      · exact lenS_ok _ h _
      · trivial
    · trivial
  · split
    · split
      · exact maxS_ok h _ _
      · exact ofRs_ok _
    · trivial
  · split
    · split
      · exact minS_ok h _ _
      · exact ofRs_ok _
    · trivial
  · split
    · split
      · rename_i u _ x y
        cases hu : notIntT P u with
        | false => trivial
        | true => exact appendS_ok h x y hu
      · trivial
    · trivial
  · trivial
  · exact ofRs_ok _
theorem pickS_ok (h : Heap) (c : Bool) (a b : V) : So.ok (ofOpt h (Bool.rec (some b) (some a) c)) (pickS h c a b) := by
  unfold pickS
  split
  · split
    · rename_i k x _ k' y
      cases hk : kindEq k k' with
      | false => exact ofO_ok h _
      | true =>
        have := (kindEq_iff _ _).1 hk; subst this
        cases c <;> rfl
    · exact ofO_ok h _
  · split
    · cases c <;> rfl
    · exact ofO_ok h _
  · split
    · cases c <;> rfl
    · exact ofO_ok h _
  · exact ofO_ok h _

theorem operE_plain {lit : Bool} {G : Nat → Option V} {tm : T V} {h : Heap} {o : Oper} (hb : ∀ t len ps, o.op ≠ .buildSlice t len ps) : operE lit P G tm h o = oper P G tm h o := by
  cases lit with
  | false => rfl
  | true =>
    change orLit (operL P G tm h o) (oper P G tm h o) = _
    have : operL P G tm h o = oper P G tm h o := by
      unfold operL
      split
      · rename_i t len ps e; exact absurd e (hb t len ps)
      · rfl
    rw [this]
    unfold orLit
    split <;> rfl

theorem s1_ok {G : Nat → Option V} {tm : T V} {h : Heap} {x : Operand} {f : V → Option V} {g : V → So} (hg : ∀ v, So.ok (ofOpt h (f v)) (g v)) : So.ok (o1 G tm h x f) (s1 G tm x g) := by
  rw [o1_def]
  unfold s1
  cases ev G tm x with
  | none => trivial
  | some v => exact hg v
theorem s2_ok {G : Nat → Option V} {tm : T V} {h : Heap} {x y : Operand} {f : V → V → Option V} {g : V → V → So} (hg : ∀ v w, So.ok (ofOpt h (f v w)) (g v w)) : So.ok (o2 G tm h x y f) (s2 G tm x y g) := by
  rw [o2_def]
  unfold s2
  cases ev G tm x with
  | none => trivial
  | some v =>
    simp only
    cases ev G tm y with
    | none => trivial
    | some w => exact hg v w

theorem operS_ok (lit : Bool) (G : Nat → Option V) (tm : T V) (h : Heap) (o : Oper) : So.ok (operE lit P G tm h o) (operS lit P G tm h o) := by
  obtain ⟨dst, op, ty, pos, after, guard⟩ := o
  cases op with
  | binOp op t x y b => rw [operE_plain (fun _ _ _ e => by cases e)]; exact s2_ok fun v w => binS_ok h t _ op v w
  | unOp op t x => rw [operE_plain (fun _ _ _ e => by cases e)]; exact s1_ok fun v => unS_ok h op v
  | index t x i => rw [operE_plain (fun _ _ _ e => by cases e)]; exact s2_ok fun v w => indexS_ok h t v w
  | indexAddr t x i => rw [operE_plain (fun _ _ _ e => by cases e)]; exact s2_ok fun v w => indexAddrS_ok h t v w
  | convert s d x => rw [operE_plain (fun _ _ _ e => by cases e)]; exact s1_ok fun v => convS_ok h s d v
  | pick c a b =>
    rw [operE_plain (fun _ _ _ e => by cases e)]
    change So.ok (oPick G tm h c a b) (match ev G tm c with | some (.bool t) => s2 G tm a b (pickS h t) | _ => .no)
    unfold oPick
    cases hc : ev G tm c with
    | none => trivial
    | some v =>
      cases v with
      | bool t =>
        simp only
        unfold s2
        cases ha : ev G tm a with
        | none => trivial
        | some va =>
          simp only
          cases hb : ev G tm b with
          | none => trivial
          | some vb => exact pickS_ok h t va vb
      | _ => trivial
  | slice t x lo hi mx =>
    rw [operE_plain (fun _ _ _ e => by cases e)]
    change So.ok (oSlice P G tm h t x lo hi mx) (s1 G tm x fun x => match evO G tm lo with
      | none => .no
      | some lo => match evO G tm hi with
        | none => .no
        | some hi => match evO G tm mx with
          | none => .no
          | some mx => sliceS P h t x lo hi mx)
    unfold oSlice s1
    cases hx : ev G tm x with
    | none => trivial
    | some v =>
      simp only
      cases h1 : evO G tm lo with
      | none => trivial
      | some lo' =>
        simp only
        cases h2 : evO G tm hi with
        | none => trivial
        | some hi' =>
          simp only
          cases h3 : evO G tm mx with
          | none => trivial
          | some mx' => exact sliceS_ok h t v lo' hi' mx'
  | call c =>
    unfold operS
    simp only
    split
    · rename_i b hb
      rw [operE_plain (fun _ _ _ e => by cases e)]
      change So.ok (oCall P G tm h c) _
      rw [oCall_def]
      cases ha : mapO (ev G tm) c.args.toList with
      | none => trivial
      | some args =>
        simp only [hb]
        by_cases hr : b = .recover
        · subst hr; trivial
        · have h2 := builtinS_ok (P := P) b c.argTypes.toList h args hr
          cases b <;> first | exact h2 | exact absurd rfl hr
    · exact ofRs_ok _
  | _ => exact ofRs_ok _

end Go.AM
