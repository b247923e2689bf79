/-
  THE ABSTRACT MACHINE: a run of a program's code over pure data and a small heap of its own. Nothing is proved here; the soundness stands in the texts beside this one.
  It is written so that the kernel runs it fast: trees by their recursors, an operation a definition.
-/
import Derived.Calls
namespace Go.AM

/-- A tree of numbered places. -/
inductive T (α : Type) where
  | e
  | n (l : T α) (v : α) (r : T α)

noncomputable def T.pick {α : Type} (k : Nat) (a b : Nat → α) : α := Bool.rec (b (Nat.div k 2)) (a (Nat.div k 2)) (Nat.beq (Nat.mod k 2) 0)

noncomputable def T.get {α : Type} (d : α) (t : T α) : Nat → α :=
  T.rec (motive := fun _ => Nat → α) (fun _ => d) (fun _ v _ gl gr i => Nat.rec v (fun k _ => T.pick k gl gr) i) t

/-- A tree of one place; 'f' bounds the way. -/
noncomputable def T.one {α : Type} (d x : α) (f : Nat) : Nat → T α :=
  Nat.rec (fun _ => T.e) (fun _ ih i => Nat.rec (T.n T.e x T.e) (fun k _ => T.pick k (fun m => T.n (ih m) d T.e) (fun m => T.n T.e d (ih m))) i) f

noncomputable def T.set {α : Type} (d x : α) (t : T α) : Nat → T α :=
  T.rec (motive := fun _ => α → Nat → T α) (fun x i => T.one d x (Nat.succ i) i)
    (fun l v r sl sr x i => Nat.rec (T.n l x r) (fun k _ => T.pick k (fun m => T.n (sl x m) v r) (fun m => T.n l v (sr x m))) i) t x

/-- Values: what is pure is data; 'ptr', 'sl', 'map', 'iter' name things of the machine's own heap; 'gptr', 'gsl' are memory that nobody writes any more; 'any' is a cell of which nothing is known; 'gmap' is a map that nobody writes any more; 'osl' is a slice of such memory that may be nil, if there is nothing in it. -/
inductive V where
  | int (k : IntKind) (n : Int)
  | bool (b : Bool)
  | str (s : List UInt8)
  | nilp
  | ptr (r ver off : Nat)
  | gptr (sz : Nat) (es : List V) (off : Nat)
  | nils
  | sl (r ver o n : Nat) (cap : Option Nat)
  | gsl (sz : Nat) (es : List V) (cap : Option Nat)
  | fsl (ty sz pub : Nat) (es : List V) (cap : Option Nat)
  | nilm
  | map (r : Nat)
  | iter (r : Nat)
  | func (f : Fn) (first cap : List V)
  | nilf
  | nili
  | iface (t : TypeId) (v : V)
  | agg (vs : List V)
  | tup (vs : List V)
  | any
  | imod (k : IntKind) (m r : Nat)
  | osl (sz : Nat) (es : List V)
  | gmap (ks vs : List V)

def undef : V := .tup []

def V.cells : V → List V
  | .agg vs => vs
  | v => [v]

/-- A value that may stand in memory. -/
def V.flat : V → Bool
  | .tup _ => false
  | .fsl _ _ _ _ _ => false
  | _ => true

/-- What lies in the heap. 'row': its version, its elements' type and cells, how many elements nobody may write any more, how many there is room for (if that is known), the elements. -/
inductive Obj where
  | row (ver ty sz pub : Nat) (cap : Option Nat) (es : List V)
  | map (es : List (V × V))
  | siter (s : List UInt8) (pos : Nat)
  | miter (left : List (V × V)) (cur : Option (V × V))
  | loop (st : LoopState) (pending : Option Code) (fn : FuncId) (n : Nat) (tm : T V) (params : List Tmp) (assign body : Code) (defers : Nat)
  | defs
  | dead

structure Heap where
  t : T Obj
  n : Nat

def Heap.empty : Heap := ⟨.e, 0⟩
noncomputable def Heap.get (h : Heap) (r : Nat) : Obj := Heap.rec (motive := fun _ => Nat → Obj) (fun t _ r => t.get .dead r) h r
noncomputable def Heap.set (h : Heap) (r : Nat) (o : Obj) : Heap := Heap.rec (motive := fun _ => Nat → Obj → Heap) (fun t n r o => ⟨t.set .dead o r, n⟩) h r o
noncomputable def Heap.new (h : Heap) (o : Obj) : Heap := Heap.rec (motive := fun _ => Obj → Heap) (fun t n o => Nat.rec (motive := fun _ => T Obj → Obj → Heap) (fun t o => ⟨t.set .dead o 0, 1⟩) (fun k _ t o => ⟨t.set .dead o (Nat.succ k), Nat.succ (Nat.succ k)⟩) n t o) h o

/-- What an operation comes to. -/
inductive Rs where
  | val (v : V) (h : Heap)
  | skip (h : Heap)
  | call (f : FuncId) (args : List V) (h : Heap)
  | yield (l : Nat) (args : List V) (h : Heap)
  | panic (v : V) (h : Heap)
  | defer (f : FuncId) (args : List V) (h : Heap)
  | recover (h : Heap)
  | stuck

noncomputable def List.at {α : Type} (l : List α) : Nat → Option α :=
  List.rec (motive := fun _ => Nat → Option α) (fun _ => none) (fun x _ ih i => Nat.rec (some x) (fun k _ => ih k) i) l

noncomputable def List.len {α : Type} (l : List α) : Nat := List.rec (motive := fun _ => Nat → Nat) (fun n => n) (fun _ _ ih n => ih (Nat.add n 1)) l 0

noncomputable def mapO {α β : Type} (f : α → Option β) (l : List α) : Option (List β) :=
  List.rec (some []) (fun x _ ih => match f x with
    | none => none
    | some y => match ih with
      | none => none
      | some ys => some (y :: ys)) l

noncomputable def List.dropN {α : Type} (l : List α) : Nat → List α :=
  List.rec (motive := fun _ => Nat → List α) (fun _ => []) (fun x xs ih i => Nat.rec (x :: xs) (fun k _ => ih k) i) l
noncomputable def List.takeN {α : Type} (l : List α) : Nat → List α :=
  List.rec (motive := fun _ => Nat → List α) (fun _ => []) (fun x _ ih i => Nat.rec [] (fun k _ => x :: ih k) i) l
noncomputable def List.app {α : Type} (a b : List α) : List α := List.rec b (fun x _ ih => x :: ih) a
noncomputable def List.setN {α : Type} (y : α) (l : List α) : Nat → List α :=
  List.rec (motive := fun _ => Nat → List α) (fun _ => []) (fun x xs ih i => Nat.rec (y :: xs) (fun k _ => x :: ih k) i) l
noncomputable def List.rep {α : Type} (x : α) (n : Nat) : List α := Nat.rec [] (fun _ ih => x :: ih) n

def ile : Int → Int → Bool
  | .ofNat a, .ofNat b => Nat.ble a b
  | .negSucc _, .ofNat _ => true
  | .ofNat _, .negSucc _ => false
  | .negSucc a, .negSucc b => Nat.ble b a
def ilt (a b : Int) : Bool := !(ile b a)
def ieq : Int → Int → Bool
  | .ofNat a, .ofNat b => Nat.beq a b
  | .negSucc a, .negSucc b => Nat.beq a b
  | _, _ => false

def wrapI (k : IntKind) (n : Int) : Int := bif ile k.min n && ile n k.max then n else k.wrap n

def kindEq : IntKind → IntKind → Bool
  | .i8, .i8 | .i16, .i16 | .i32, .i32 | .i64, .i64 | .u8, .u8 | .u16, .u16 | .u32, .u32 | .u64, .u64 => true
  | _, _ => false

def byteEq (a b : UInt8) : Bool := Nat.beq a.toNat b.toNat

noncomputable def strEq (a : List UInt8) : List UInt8 → Bool :=
  List.rec (motive := fun _ => List UInt8 → Bool) (fun b => match b with | [] => true | _ => false)
    (fun x _ ih b => match b with | [] => false | y :: ys => bif byteEq x y then ih ys else false) a

/-- A value of one cell. -/
def V.single : V → Bool
  | .agg _ => false
  | .tup _ => false
  | .fsl _ _ _ _ _ => false
  | _ => true

noncomputable def allL (f : V → Bool) (l : List V) : Bool := List.rec true (fun v _ ih => bif f v then ih else false) l

/-- The model's own values, as data. -/
noncomputable def ofValue (n : Nat) : Value → Option V :=
  Nat.rec (motive := fun _ => Value → Option V) (fun _ => none) (fun _ ih v => match v with
    | .int k n => some (.int k n)
    | .bool b => some (.bool b)
    | .string s => some (.str s.data.toList)
    | .pointer a => match a with
      | none => some .nilp
      | some _ => none
    | .slice a n c => match a with
      | none => bif Nat.beq n 0 && Nat.beq c 0 then some .nils else none
      | some _ => none
    | .map m => match m with
      | none => some .nilm
      | some _ => none
    | .nilFunc => some .nilf
    | .nilIface => some .nili
    | .agg cs => match mapO ih cs.toList with
      | some vs => bif allL V.single vs then some (.agg vs) else none
      | none => none
    | .iface t v => match ih v with
      | some v => some (.iface t v)
      | none => none
    | _ => none) n

section
variable (P : Program)

def size (t : TypeId) : Nat := P.cellsOf t
/-- Is a variable of a type read as a row of cells? none: there is no such type. -/
def aggOf (t : TypeId) : Option Bool :=
  match P.underlying t with
  | some (.struct _) => some true
  | some (.array _ _) => some true
  | some _ => some false
  | none => none
noncomputable def zero (t : TypeId) : Option V :=
  match P.info? t with
  | some i => match i.zero with
    | some v => ofValue 3 v
    | none => none
  | none => none
def sliceElem (t : TypeId) : Option TypeId :=
  match P.underlying t with
  | some (.slice e) => some e
  | _ => none
def isStrT (t : TypeId) : Bool :=
  match P.underlying t with
  | some .string => true
  | _ => false
def isSliceT (t : TypeId) : Bool :=
  match P.underlying t with
  | some (.slice _) => true
  | _ => false
def isMapT (t : TypeId) : Bool :=
  match P.underlying t with
  | some (.map _ _) => true
  | _ => false
/-- No type of numbers; there is such a type. -/
def notIntT (t : TypeId) : Bool :=
  match P.underlying t with
  | some (.int _) => false
  | some _ => true
  | none => false
def notIfaceT (t : TypeId) : Bool :=
  match P.underlying t with
  | some (.interface _) => false
  | some _ => true
  | none => false
def isPtr (t : TypeId) : Bool :=
  match P.underlying t with
  | some (.pointer _) => true
  | _ => false
def isU8 (t : TypeId) : Bool :=
  match P.underlying t with
  | some (.int .u8) => true
  | _ => false
def arrayOf (t : TypeId) : Option (Nat × TypeId) :=
  match P.underlying t with
  | some (.array n e) => some (n, e)
  | _ => none
def mapKV (t : TypeId) : Option (TypeId × TypeId) :=
  match P.underlying t with
  | some (.map k e) => some (k, e)
  | _ => none
def fieldOff (t : TypeId) (f : Nat) : Option (TypeId × Nat) :=
  match P.underlying t with
  | some (.struct fs) => match fs[f]? with
    | some x => some (x.type, x.offset)
    | none => none
  | _ => none

/-- Cells, as a variable of a type reads them. -/
noncomputable def pack (t : TypeId) (cs : List V) : Option V :=
  match aggOf P t with
  | none => none
  | some true => bif Nat.beq (List.len cs) (size P t) then some (.agg cs) else none
  | some false => match cs with
    | [v] => some v
    | _ => none

/-- Of elements of 'sz' cells each: 'k' cells from cell 'off' on, all within one element. -/
noncomputable def cellsAt (sz : Nat) (es : List V) (off k : Nat) : Option (List V) :=
  bif Nat.beq sz 1 then (bif Nat.beq k 1 then (match List.at es off with
    | none => none
    | some e => some e.cells) else none)
  else match List.at es (Nat.div off sz) with
  | none => none
  | some e => bif Nat.ble (Nat.add (Nat.mod off sz) k) (List.len e.cells) then some (List.takeN (List.dropN e.cells (Nat.mod off sz)) k) else none

noncomputable def splice (cs : List V) (j : Nat) (new : List V) : List V := List.app (List.takeN cs j) (List.app new (List.dropN cs (Nat.add j (List.len new))))

/-- An element with some of its cells written. An element that was no row of cells stays one. -/
noncomputable def putCells (e : V) (j : Nat) (new : List V) : Option V :=
  match e with
  | .agg cs => bif Nat.ble (Nat.add j (List.len new)) (List.len cs) then some (.agg (splice cs j new)) else none
  | _ => match j with
    | 0 => match new with
      | [v] => some v
      | _ => none
    | _ + 1 => none

noncomputable def packO (t : TypeId) : Option (List V) → Option V
  | some cs => pack P t cs
  | none => none

noncomputable def load (h : Heap) (t : TypeId) (a : V) : Option V :=
  match a with
  | .ptr r ver off =>
    match h.get r with
    | .row ver' _ sz _ _ es => bif Nat.beq ver ver' then packO P t (cellsAt sz es off (size P t)) else none
    | _ => none
  | .gptr sz es off => packO P t (cellsAt sz es off (size P t))
  | _ => none

noncomputable def store (h : Heap) (t : TypeId) (a v : V) : Option Heap :=
  match a with
  | .ptr r ver off =>
    match h.get r with
    | .row ver' ty sz pub cap es =>
      bif Nat.beq ver ver' && v.flat && Nat.beq (List.len v.cells) (size P t) && Nat.ble pub (Nat.div off sz) && Nat.ble 1 (size P t) then
        match List.at es (Nat.div off sz) with
        | some e => match putCells e (Nat.mod off sz) v.cells with
          | some e' => some (h.set r (.row ver ty sz pub cap (List.setN e' es (Nat.div off sz))))
          | none => none
        | none => none
      else none
    | _ => none
  | _ => none

noncomputable def newRow (h : Heap) (ty sz pub : Nat) (cap : Option Nat) (es : List V) : Heap := h.new (.row 0 ty sz pub cap es)

/-- Two numbers, texts, bools that are compared. -/
noncomputable def eqS (x y : V) : Option Bool :=
  match x with
  | .int k a => match y with
    | .int k' b => bif kindEq k k' then some (ieq a b) else none
    | _ => none
  | .bool a => match y with
    | .bool b => some (Bool.rec (!b) b a)
    | _ => none
  | .str a => match y with
    | .str b => some (strEq a b)
    | _ => none
  | _ => none

/-- Is a value one of a type of numbers, texts, bools? -/
def fitsT (t : TypeId) (x : V) : Bool :=
  match P.underlying t with
  | some (.int _) => match x with | .int _ _ => true | _ => false
  | some .string => match x with | .str _ => true | _ => false
  | some .bool => match x with | .bool _ => true | _ => false
  | _ => false

/-- A pointer is held against itself, or against nil. -/
noncomputable def eqPtr (h : Heap) (x y : V) : Option Bool :=
  match x with
  | .nilp => match y with
    | .nilp => some true
    | .ptr _ _ _ => some false
    | .gptr _ _ _ => some false
    | _ => none
  | .ptr r v o => match y with
    | .nilp => some false
    | .ptr r' v' o' => match h.get r with
      | .row ver _ _ _ _ _ => bif Nat.beq r r' && Nat.beq v v' && Nat.beq o o' && Nat.beq v ver then some true else none
      | _ => none
    | _ => none
  | .gptr _ _ _ => match y with
    | .nilp => some false
    | _ => none
  | _ => none

def isNilS : V → Option Bool
  | .nils => some true
  | .sl _ _ _ _ _ => some false
  | .gsl _ _ _ => some false
  | _ => none
def isNilM : V → Option Bool
  | .nilm => some true
  | .map _ => some false
  | .gmap _ _ => some false
  | _ => none
def isNilF : V → Option Bool
  | .nilf => some true
  | .func _ _ _ => some false
  | _ => none
def isNilI : V → Option Bool
  | .nili => some true
  | .iface _ _ => some false
  | _ => none
/-- One of the two must be nil. -/
def eqNil (f : V → Option Bool) (x y : V) : Option Bool :=
  match f x with
  | none => none
  | some a => match f y with
    | none => none
    | some b => bif a then some b else bif b then some false else none

/-- Structs of numbers, texts, bools, field by field. -/
noncomputable def eqFields (fs : List Field) (xs ys : List V) : Option Bool :=
  List.rec (some true) (fun f _ ih => match List.at xs f.offset with
    | none => none
    | some x => match List.at ys f.offset with
      | none => none
      | some y => bif fitsT P f.type x && !(f.name == "_") then (match eqS x y with
        | none => none
        | some true => ih
        | some false => match ih with
          | none => none
          | some _ => some false) else none) fs

/-- '==' at a type; 'c': one of the two is written out. -/
noncomputable def eqT (h : Heap) (t : TypeId) (c : Bool) (x y : V) : Option Bool :=
  match P.underlying t with
  | none => none
  | some d => match d with
    | .bool => match x with
      | .bool a => match y with
        | .bool b => some (Bool.rec (!b) b a)
        | _ => none
      | _ => none
    | .pointer e => match P.info? e with
      | some _ => eqPtr h x y
      | none => none
    | .slice _ => eqNil isNilS x y
    | .map _ _ => eqNil isNilM x y
    | .func _ _ _ => eqNil isNilF x y
    | .interface _ => match x, y with
      | .nili, .nili => bif c then some true else none
      | x, y => eqNil isNilI x y
    | .struct fs => bif P.stoodInHeld t || P.eqGuardType P.depth t then none else match x with
      | .agg xs => match y with
        | .agg ys => eqFields P fs.toList xs ys
        | _ => none
      | _ => none
    | _ => none

noncomputable def bytesLt (a : List UInt8) : List UInt8 → Bool :=
  List.rec (motive := fun _ => List UInt8 → Bool) (fun b => match b with | [] => false | _ => true)
    (fun x _ ih b => match b with | [] => false | y :: ys => bif Nat.blt x.toNat y.toNat then true else bif byteEq x y then ih ys else false) a

/-- A number made plain before it is handed on (the kernel would carry the sum along). -/
noncomputable def forceN (f : Nat → Option V) (n : Nat) : Option V := Nat.rec (f 0) (fun k _ => f (Nat.succ k)) n
noncomputable def forceI (k : IntKind) (n : Int) : Option V :=
  Int.rec (motive := fun _ => IntKind → Option V) (fun n k => forceN (fun n => some (.int k (.ofNat n))) n) (fun n k => forceN (fun n => some (.int k (.negSucc n))) n) n k
noncomputable def okInt (k : IntKind) (n : Int) : Option V := forceI k (wrapI k n)

noncomputable def quoI (k : IntKind) (a b : Int) : Option V := Bool.rec (okInt k (a.tdiv b)) none (ieq b 0)
noncomputable def remI (k : IntKind) (a b : Int) : Option V := Bool.rec (forceI k (a.tmod b)) none (ieq b 0)
noncomputable def bitI (k : IntKind) (x : BitVec k.bits) : Option V := forceI k (k.wrap x.toNat)
noncomputable def shlI (k : IntKind) (a b : Int) : Option V := Bool.rec (okInt k (a * 2 ^ (min b.toNat k.bits))) none (ilt b 0)
noncomputable def shrI (k : IntKind) (a b : Int) : Option V := Bool.rec (forceI k (a.fdiv (2 ^ (min b.toNat k.bits)))) none (ilt b 0)
noncomputable def intOp (op : BinOp) (k : IntKind) (a b : Int) : Option V :=
  BinOp.rec (motive := fun _ => IntKind → Int → Int → Option V)
    (fun k a b => okInt k (a + b)) (fun k a b => okInt k (a - b)) (fun k a b => okInt k (a * b)) quoI remI
    (fun k a b => bitI k (BitVec.ofInt k.bits a &&& BitVec.ofInt k.bits b)) (fun k a b => bitI k (BitVec.ofInt k.bits a ||| BitVec.ofInt k.bits b))
    (fun k a b => bitI k (BitVec.ofInt k.bits a ^^^ BitVec.ofInt k.bits b)) shlI shrI
    (fun k a b => bitI k (BitVec.ofInt k.bits a &&& ~~~(BitVec.ofInt k.bits b)))
    (fun _ a b => some (.bool (ieq a b))) (fun _ a b => some (.bool (!(ieq a b)))) (fun _ a b => some (.bool (ilt a b)))
    (fun _ a b => some (.bool (ile a b))) (fun _ a b => some (.bool (ilt b a))) (fun _ a b => some (.bool (ile b a))) op k a b

def isShift : BinOp → Bool
  | .shl => true
  | .shr => true
  | _ => false

def room : Nat := 1099511627776

noncomputable def strOp (op : BinOp) (a b : List UInt8) : Option V :=
  match op with
  | .add => bif Nat.ble (Nat.add (List.len a) (List.len b)) room then some (.str (List.app a b)) else none
  | .eql => some (.bool (strEq a b))
  | .neq => some (.bool (!(strEq a b)))
  | .lss => some (.bool (bytesLt a b))
  | .leq => some (.bool (!(bytesLt b a)))
  | .gtr => some (.bool (bytesLt b a))
  | .geq => some (.bool (!(bytesLt a b)))
  | _ => none

noncomputable def eqOp (h : Heap) (t : TypeId) (c : Bool) (op : BinOp) (x y : V) : Option V :=
  match op with
  | .eql => match eqT P h t c x y with
    | some b => some (.bool b)
    | none => none
  | .neq => match eqT P h t c x y with
    | some b => some (.bool (!b))
    | none => none
  | _ => none

/-- A number below 256, of which no more is known than what is left of it by m: what is left by a part of m. -/
noncomputable def remMod (op : BinOp) (k : IntKind) (m r : Nat) (y : V) : Option V :=
  match op with
  | .rem => match y with
    | .int k' (.ofNat d) => bif kindEq k k' && Nat.blt 0 d && Nat.beq (Nat.mod m d) 0 then forceI k (.ofNat (Nat.mod r d)) else none
    | _ => none
  | _ => none

noncomputable def binOp (h : Heap) (t : TypeId) (c : Bool) (op : BinOp) (x y : V) : Option V :=
  match x with
  | .imod k m r => remMod op k m r y
  | .int k a => match y with
    | .int k' b => bif isShift op || kindEq k k' then intOp op k a b else none
    | _ => none
  | .str a => match y with
    | .str b => strOp op a b
    | _ => none
  | x => eqOp P h t c op x y

def isConst : Operand → Bool
  | .const _ => true
  | _ => false

noncomputable def unOp (op : UnOp) (x : V) : Option V :=
  match x with
  | .int k n => match op with
    | .neg => okInt k (0 - n)
    | .xor => intOp .xor k (if k.signed then -1 else k.max) n
    | _ => none
  | .bool b => match op with
    | .not => some (.bool (!b))
    | _ => none
  | _ => none

/-- The value of 'len'. -/
noncomputable def lenOf (t : TypeId) (h : Heap) (x : V) : Option Nat :=
  match x with
  | .str s => bif isStrT P t then some (List.len s) else none
  | .nils => bif isSliceT P t then some 0 else none
  | .sl _ _ _ n _ => bif isSliceT P t then some n else none
  | .gsl _ es _ => bif isSliceT P t then some (List.len es) else none
  | .osl _ es => bif isSliceT P t then some (List.len es) else none
  | .nilm => bif isMapT P t then some 0 else none
  | .map r => match h.get r with
    | .map es => bif isMapT P t then some (List.len es) else none
    | _ => none
  | .gmap ks _ => bif isMapT P t then some (List.len ks) else none
  | _ => none

/-- A slice's elements, of 'sz' cells each. -/
noncomputable def elems (h : Heap) (sz : Nat) (x : V) : Option (List V) :=
  match x with
  | .nils => some []
  | .gsl sz' es _ => bif Nat.beq sz sz' then some es else none
  | .osl sz' es => bif Nat.beq sz sz' then some es else none
  | .sl r ver o n _ => match h.get r with
    | .row ver' _ sz' _ _ es => bif Nat.beq ver ver' && Nat.beq sz sz' && Nat.ble (Nat.add o n) (List.len es) then some (List.takeN (List.dropN es o) n) else none
    | _ => none
  | _ => none

/-- A byte's value, and read back. -/
def byteV (b : UInt8) : V := .int .u8 b.toNat
def byteOf : V → Option UInt8
  | .int .u8 n => some (UInt8.ofNat n.toNat)
  | _ => none
def byteOf' : V → Option UInt8
  | .int .u8 (.ofNat n) => bif Nat.blt n 256 then some (UInt8.ofNat n) else none
  | _ => none

noncomputable def mapB (s : List UInt8) : List V := List.rec [] (fun x _ ih => byteV x :: ih) s

noncomputable def appended (h : Heap) (sz : Nat) (x : V) : Option (List V) :=
  match x with
  | .str s => bif Nat.beq sz 1 then some (mapB s) else none
  | v => elems h sz v

def isNil {α : Type} : List α → Bool
  | [] => true
  | _ => false

def hasInfo (t : TypeId) : Bool :=
  match P.info? t with
  | some _ => true
  | none => false
/-- Does a type's zero fill its cells? -/
def zeroOk (e : TypeId) : Bool :=
  match P.info? e with
  | some i => match i.zero with
    | some z => Nat.beq z.cells.size i.size
    | none => false
  | none => false

noncomputable def freshSl (h : Heap) (e sz n : Nat) (es : List V) : Rs :=
  bif zeroOk P e && Nat.ble n room && Nat.ble (Nat.mul n (P.bytesOf e)) room then .val (.sl h.n 0 0 n none) (newRow h e sz 0 none es) else .stuck

noncomputable def appendSl (h : Heap) (e sz r ver o n : Nat) (c : Option Nat) (new : List V) (m : Nat) : Rs :=
  match h.get r with
  | .row ver' ty sz' pub cap es =>
    bif Nat.beq ver ver' && Nat.beq sz sz' && Nat.ble (Nat.add o n) (List.len es) && zeroOk P e && Nat.ble (Nat.add n m) room && Nat.ble (Nat.mul (Nat.add n m) (P.bytesOf e)) room then
      match (match c with | some c => some c | none => match cap with | some k => some (Nat.sub k o) | none => none) with
      | some c' =>
        bif Nat.ble (Nat.add n m) c' then
          (bif Nat.beq (Nat.add o n) (List.len es) then .val (.sl r ver o (Nat.add n m) c) (h.set r (.row ver ty sz pub cap (List.app es new)))
          else .stuck)
        else freshSl P h e sz (Nat.add n m) (List.app (List.takeN (List.dropN es o) n) new)
      | none =>
        bif Nat.beq o 0 && Nat.ble pub n && Nat.beq ty e then .val (.sl r (Nat.succ ver) 0 (Nat.add n m) none) (h.set r (.row (Nat.succ ver) ty sz pub none (List.app (List.takeN es n) new)))
        else .stuck
    else .stuck
  | _ => .stuck

noncomputable def append (t : TypeId) (h : Heap) (s x : V) : Rs :=
  match sliceElem P t with
  | none => .stuck
  | some e =>
    match appended h (size P e) x with
    | none => .stuck
    | some new =>
      bif Nat.beq (size P e) 0 then .stuck else
      bif isNil new then (match s with
        | .nils => .val s h
        | .sl _ _ _ _ _ => .val s h
        | .gsl _ _ _ => .val s h
        | _ => .stuck)
      else match s with
      | .nils => freshSl P h e (size P e) (List.len new) new
      | .gsl sz' es c => match c with
        | some c => bif Nat.beq (size P e) sz' && Nat.blt c (Nat.add (List.len es) (List.len new)) then freshSl P h e sz' (Nat.add (List.len es) (List.len new)) (List.app es new) else .stuck
        | none => .stuck
      | .sl r ver o n c => appendSl P h e (size P e) r ver o n c new (List.len new)
      | _ => .stuck

/-- An index that stands in a slice expression: none, or a number that is not below 0. -/
def boundOf (d : Nat) : Option V → Option Nat
  | none => some d
  | some (.int _ (.ofNat n)) => some n
  | _ => none

def subO (c : Option Nat) (k : Nat) : Option Nat :=
  match c with
  | some c => some (Nat.sub c k)
  | none => none

noncomputable def sliceSl (r ver o n : Nat) (c : Option Nat) (l e : Nat) (m : Option Nat) : Option V :=
  match m with
  | none => bif Nat.ble l e && Nat.ble e n then some (.sl r ver (Nat.add o l) (Nat.sub e l) (subO c l)) else none
  | some m => bif Nat.ble l e && Nat.ble e m && Nat.ble m n then some (.sl r ver (Nat.add o l) (Nat.sub e l) (some (Nat.sub m l))) else none

noncomputable def sliceG (sz : Nat) (es : List V) (c : Option Nat) (l e : Nat) (m : Option Nat) : Option V :=
  match m with
  | none => bif Nat.ble l e && Nat.ble e (List.len es) then some (.gsl sz (List.dropN (List.takeN es e) l) (subO c l)) else none
  | some m => bif Nat.ble l e && Nat.ble e m && Nat.ble m (List.len es) then some (.gsl sz (List.dropN (List.takeN es e) l) (some (Nat.sub m l))) else none

noncomputable def rowSz (h : Heap) (r : Nat) : Nat :=
  match h.get r with
  | .row _ _ sz _ _ _ => sz
  | _ => 0

/-- x[lo:hi:mx]. -/
noncomputable def slice (h : Heap) (t : TypeId) (x : V) (lo hi mx : Option V) : Option V :=
  match boundOf 0 lo with
  | none => none
  | some l =>
    match (match mx with
      | none => some none
      | some (.int _ (.ofNat m)) => (match hi with
        | some _ => some (some m)
        | none => none)
      | _ => none) with
    | none => none
    | some m =>
      match x with
      | .str s => match boundOf (List.len s) hi, m with
        | some e, none => bif isStrT P t && Nat.ble l e && Nat.ble e (List.len s) then some (.str (List.dropN (List.takeN s e) l)) else none
        | _, _ => none
      | .nils => match boundOf 0 hi, sliceElem P t, m with
        | some 0, some el, none => bif Nat.beq l 0 && Nat.ble 1 (size P el) then some .nils else none
        | some 0, some el, some 0 => bif Nat.beq l 0 && Nat.ble 1 (size P el) then some .nils else none
        | _, _, _ => none
      | .sl r ver o n c => match boundOf n hi, sliceElem P t with
        | some e, some el => bif Nat.ble 1 (size P el) && Nat.beq (rowSz h r) (size P el) then sliceSl r ver o n c l e m else none
        | _, _ => none
      | .gsl sz es c => match boundOf (List.len es) hi, sliceElem P t with
        | some e, some el => bif Nat.beq (size P el) sz then sliceG sz es c l e m else none
        | _, _ => none
      | _ => none

def addOff (a : V) (k : Nat) : Option V :=
  match a with
  | .ptr r ver off => some (.ptr r ver (Nat.add off k))
  | .gptr sz es off => some (.gptr sz es (Nat.add off k))
  | _ => none

def natI : V → Option Nat
  | .int _ (.ofNat n) => some n
  | _ => none

noncomputable def indexAddr (h : Heap) (t : TypeId) (x i : V) : Option V :=
  match natI i with
  | none => none
  | some i =>
    match x with
    | .sl r ver o n _ => match sliceElem P t with
      | some e => bif Nat.blt i n && Nat.ble 1 (size P e) && Nat.beq (rowSz h r) (size P e) then some (.ptr r ver (Nat.mul (Nat.add o i) (size P e))) else none
      | none => none
    | .gsl sz es _ => match sliceElem P t with
      | some e => bif Nat.blt i (List.len es) && Nat.beq sz (size P e) then some (.gptr sz es (Nat.mul i sz)) else none
      | none => none
    | .osl sz es => match sliceElem P t with
      | some e => bif Nat.blt i (List.len es) && Nat.beq sz (size P e) then some (.gptr sz es (Nat.mul i sz)) else none
      | none => none
    | a => match arrayOf P t with
      | some (len, e) => bif Nat.blt i len && Nat.ble 1 (size P e) then addOff a (Nat.mul i (size P e)) else none
      | none => none

noncomputable def index (t : TypeId) (x i : V) : Option V :=
  match natI i with
  | none => none
  | some i =>
    match x with
    | .str s => match List.at s i with
      | some b => bif isStrT P t then some (byteV b) else none
      | none => none
    | .agg cs => match arrayOf P t with
      | some (len, e) => bif Nat.blt i len then pack P e (List.takeN (List.dropN cs (Nat.mul i (size P e))) (size P e)) else none
      | none => none
    | _ => none

/-- The places of a struct's fields, or an array's elements: first cell, cells. -/
def placeOf (t : TypeId) (i : Nat) : Option (Nat × Nat) :=
  match P.underlying t with
  | some (.struct fs) => match fs[i]? with
    | some f => some (f.offset, size P f.type)
    | none => none
  | some (.array _ e) => some (Nat.mul i (size P e), size P e)
  | _ => none

noncomputable def fillParts (t : TypeId) (ps : List (Nat × V)) : List V → Option (List V) :=
  List.rec (motive := fun _ => List V → Option (List V)) (fun cs => some cs)
    (fun p _ ih cs => match placeOf P t p.1 with
      | some (off, sz) => bif p.2.flat && Nat.beq (List.len p.2.cells) sz && Nat.ble (Nat.add off sz) (List.len cs) then ih (splice cs off p.2.cells) else none
      | none => none) ps

noncomputable def allF (f : Field → Bool) (l : List Field) : Bool := List.rec true (fun v _ ih => bif f v then ih else false) l
/-- Are the types of a type's parts there? -/
noncomputable def partsOk (t : TypeId) : Bool :=
  match P.underlying t with
  | some (.struct fs) => allF (fun f => hasInfo P f.type) fs.toList
  | some (.array _ e) => hasInfo P e
  | _ => false

noncomputable def buildParts (t : TypeId) (ps : List (Nat × V)) : Option V :=
  match zero P t with
  | some (.agg z) => bif partsOk P t then (match fillParts P t ps z with
    | some cs => some (.agg cs)
    | none => none) else none
  | _ => none

noncomputable def fillElems (sz : Nat) (ps : List (Nat × V)) : List V → Option (List V) :=
  List.rec (motive := fun _ => List V → Option (List V)) (fun es => some es)
    (fun p _ ih es => bif p.2.flat && Nat.beq (List.len p.2.cells) sz && Nat.blt p.1 (List.len es) then ih (List.setN p.2 es p.1) else none) ps

/-- A pointer that points at a cell that is there; at a variable of a type's layout. -/
noncomputable def ptrIn (h : Heap) (r v o : Nat) : Bool :=
  match h.get r with
  | .row ver _ sz _ _ es => Nat.beq v ver && Nat.blt o (Nat.mul (List.len es) sz)
  | _ => false
/-- Does a struct have a field of such a type at a place? -/
noncomputable def fieldLies (ty : TypeId) (r : Nat) (u : TypeId) : Bool :=
  match P.underlying ty with
  | some (.struct fs) => !(P.stoodInHeld ty) && (List.rec false (fun f _ ih => bif Nat.beq f.offset r && Nat.ble 1 (size P f.type) && sameLayout P P.depth f.type u then true else ih) fs.toList)
  | _ => false
noncomputable def ptrLies (h : Heap) (r v o : Nat) (u : TypeId) : Bool :=
  match h.get r with
  | .row ver ty sz _ _ es => Nat.beq v ver && Nat.beq (size P ty) sz && ((Nat.beq (Nat.mod o sz) 0 && sameLayout P P.depth ty u) || fieldLies P ty (Nat.mod o sz) u) && Nat.blt (Nat.div o sz) (List.len es) && Nat.ble 2 P.depth && hasInfo P u
  | _ => false

noncomputable def convert (src dst : TypeId) (h : Heap) (x : V) : Option V :=
  match P.underlying src with
  | none => none
  | some s => match P.underlying dst with
    | none => none
    | some d => match x with
      | .int _ n => match d with
        | .int k => some (.int k (wrapI k n))
        | .string => match s with
          | .int _ => some (.str (Utf8.encode n).data.toList)
          | _ => none
        | _ => none
      | .imod _ m r => match d with
        | .int k => bif kindEq k .i8 then none else some (.imod k m r)
        | _ => none
      | .str b => match s, d with
        | .string, .string => some (.str b)
        | _, _ => none
      | .ptr r v o => match s, d with
        | .unsafePointer, .pointer u => bif ptrLies P h r v o u then some (.ptr r v o) else none
        | .pointer t, .unsafePointer => bif ptrIn h r v o && Nat.ble 1 (size P t) then some (.ptr r v o) else none
        | _, _ => none
      | x => match s, d with
        | .slice e, .string => match isU8 P e, elems h 1 x with
          | true, some es => match mapO byteOf es with
            | some bs => some (.str bs)
            | none => none
          | _, _ => none
        | _, _ => none

noncomputable def findKey (k : V) (l : List (V × V)) : Option (Option V) :=
  List.rec (some none) (fun p _ ih => match eqS k p.1 with
    | some true => some (some p.2)
    | some false => ih
    | none => none) l

noncomputable def putKey (k v : V) (l : List (V × V)) : Option (List (V × V)) :=
  List.rec (some [(k, v)]) (fun p l ih => match eqS k p.1 with
    | some true => some ((k, v) :: l)
    | some false => match ih with
      | some l' => some (p :: l')
      | none => none
    | none => none) l

/-- What may be a key: a number, a text, a bool. -/
def keyOk : V → Bool
  | .int _ _ => true
  | .str _ => true
  | .bool _ => true
  | _ => false

noncomputable def typeAssert (x : V) (asserted : TypeId) (commaOk : Bool) : Option V :=
  match P.underlying asserted with
  | none => none
  | some (.interface _) => none
  | some _ => match x with
    | .nili => bif commaOk then (match zero P asserted with
      | some z => some (.tup [z, .bool false])
      | none => none) else none
    | .iface t v => bif Nat.beq t asserted then (bif commaOk then some (.tup [v, .bool true]) else some v)
      else bif commaOk then (match zero P asserted with
        | some z => some (.tup [z, .bool false])
        | none => none) else none
    | _ => none

def max2 (x y : V) : Option V :=
  match x, y with
  | .int k a, .int _ b => some (.int k (bif ilt a b then b else a))
  | _, _ => none
def min2 (x y : V) : Option V :=
  match x, y with
  | .int k a, .int _ b => some (.int k (bif ilt b a then b else a))
  | _, _ => none
noncomputable def foldO (f : V → V → Option V) (l : List V) : V → Option V :=
  List.rec (motive := fun _ => V → Option V) (fun a => some a) (fun x _ ih a => match f a x with
    | some b => ih b
    | none => none) l

noncomputable def ofOpt (h : Heap) (r : Option V) : Rs := Option.rec (motive := fun _ => Heap → Rs) (fun _ => .stuck) (fun v h => .val v h) r h

/-- A copy into a slice of the machine's own. -/
noncomputable def copy (t : TypeId) (h : Heap) (d x : V) : Rs :=
  match sliceElem P t with
  | none => .stuck
  | some e => bif Nat.beq (size P e) 0 then .stuck else match appended h (size P e) x with
    | none => .stuck
    | some new => match d with
      | .nils => .val (.int .i64 0) h
      | .sl r ver o dn _ => match h.get r with
        | .row ver' ty sz pub cap es =>
          bif Nat.beq ver ver' && Nat.ble pub o && Nat.beq sz (size P e) && Nat.ble (Nat.add o dn) (List.len es) then
            .val (.int .i64 (Int.ofNat (Nat.min dn (List.len new)))) (h.set r (.row ver ty sz pub cap (List.app (List.takeN es o) (List.app (List.takeN new dn) (List.dropN es (Nat.add o (Nat.min dn (List.len new))))))))
          else .stuck
        | _ => .stuck
      | _ => .stuck

noncomputable def bCap (t : TypeId) (h : Heap) (x : V) : Rs :=
  bif !(isSliceT P t) then .stuck else match x with
  | .nils => .val (.int .i64 0) h
  | .sl r ver o _ c => match c with
    | some c => .val (.int .i64 (Int.ofNat c)) h
    | none => match h.get r with
      | .row ver' _ _ _ cap _ => match cap with
        | some k => bif Nat.beq ver ver' then .val (.int .i64 (Int.ofNat (Nat.sub k o))) h else .stuck
        | none => .stuck
      | _ => .stuck
  | _ => .stuck

noncomputable def bClear (t : TypeId) (h : Heap) (x : V) : Rs :=
  bif !(isSliceT P t) then .stuck else match x with
  | .nils => .val (.tup []) h
  | .gsl _ es _ => bif isNil es then .val (.tup []) h else .stuck
  | .sl r ver o n _ => bif Nat.beq n 0 then .val (.tup []) h else match h.get r with
    | .row ver' ty sz pub cap es => match sliceElem P t with
      | some e => match zero P e with
        | some z => bif Nat.beq ver ver' && Nat.ble pub o && Nat.beq sz (size P e) && Nat.beq (List.len z.cells) sz && z.flat && Nat.ble (Nat.add o n) (List.len es) then
            .val (.tup []) (h.set r (.row ver ty sz pub cap (List.app (List.takeN es o) (List.app (List.rep z n) (List.dropN es (Nat.add o n)))))) else .stuck
        | none => .stuck
      | none => .stuck
    | _ => .stuck
  | _ => .stuck

noncomputable def bStringOf (h : Heap) (t : TypeId) (p n : V) : Rs :=
  match n with
  | .int .i64 (.ofNat n) => match p with
    | .nilp => bif Nat.beq n 0 then .val (.str []) h else .stuck
    | .ptr r ver off => match h.get r with
      | .row ver' ty sz pub cap es =>
        match P.underlying t with
        | some (.pointer u) =>
          bif Nat.beq ver ver' && Nat.beq off 0 && Nat.beq sz 1 && Nat.beq (size P ty) 1 && Nat.blt 0 n && Nat.ble n (List.len es) && Nat.ble n room && Nat.beq ty u then
            match mapO byteOf' (List.takeN es n) with
            | some s => .val (.str s) (h.set r (.row ver ty sz (Nat.max pub n) cap es))
            | none => .stuck
          else .stuck
        | _ => .stuck
      | _ => .stuck
    | _ => .stuck
  | _ => .stuck

def noCap : Option Nat → Bool
  | none => true
  | some _ => false

noncomputable def bData (h : Heap) (x : V) : Rs :=
  match x with
  | .nils => .val .nilp h
  | .sl r ver o n c => match h.get r with
    | .row ver' _ sz _ _ _ => bif Nat.beq ver ver' && Nat.blt 0 n && noCap c then .val (.ptr r ver (Nat.mul o sz)) h else .stuck
    | _ => .stuck
  | _ => .stuck

noncomputable def builtin (b : Builtin) (argTypes : List TypeId) (h : Heap) (args : List V) : Rs :=
  match argTypes with
  | [] => .stuck
  | t :: ts => match args with
    | [] => .stuck
    | x :: rest => match b with
      | .len => match rest with
        | [] => (match lenOf P t h x with
          | some n => .val (.int .i64 (Int.ofNat n)) h
          | none => .stuck)
        | _ => .stuck
      | .append => match rest with
        | [y] => (match ts with
          | [u] => bif notIntT P u then append P t h x y else .stuck
          | _ => .stuck)
        | _ => .stuck
      | .cap => match rest with
        | [] => bCap P t h x
        | _ => .stuck
      | .copy => match rest with
        | [y] => copy P t h x y
        | _ => .stuck
      | .max => ofOpt h (foldO max2 rest x)
      | .min => ofOpt h (foldO min2 rest x)
      | .clear => match rest with
        | [] => bClear P t h x
        | _ => .stuck
      | .unsafeSliceData => match rest with
        | [] => bData h x
        | _ => .stuck
      | .unsafeString => match rest with
        | [y] => (match ts with
          | [_] => bStringOf P h t x y
          | _ => .stuck)
        | _ => .stuck
      | _ => .stuck

/-- A slot of which nothing is known. -/
def lost : V := .fsl 0 0 0 [] none
def notLost (v : V) : Option V :=
  match v with
  | .fsl _ _ _ _ _ => none
  | v => some v
noncomputable def ev (G : Nat → Option V) (tm : T V) (x : Operand) : Option V :=
  Operand.rec (motive := fun _ => (Nat → Option V) → T V → Option V) (fun t _ tm => notLost (tm.get undef t)) (fun v _ _ => ofValue 3 v) (fun g G _ => G g)
    (fun f _ _ => some (.func (.func f) [] [])) x G tm

noncomputable def callV (h : Heap) (f : V) (args : List V) : Rs :=
  match f with
  | .func fn first cap => match fn with
    | .func g => .call g (List.app (List.app first args) cap) h
    | .via t path g byPtr => bif path.isEmpty && byPtr && isPtr P t then (match first with
        | [.ptr _ _ _] => .call g (List.app first args) h
        | _ => .stuck) else .stuck
    | .yield l => .yield l (List.app first args) h
    | _ => .stuck
  | _ => .stuck

section ops
variable (G : Nat → Option V) (tm : T V) (h : Heap)

noncomputable def o1 (x : Operand) (f : V → Option V) : Rs :=
  Option.rec (motive := fun _ => (V → Option V) → Heap → Rs) (fun _ _ => .stuck) (fun v f h => ofOpt h (f v)) (ev G tm x) f h
noncomputable def o2 (x y : Operand) (f : V → V → Option V) : Rs :=
  Option.rec (motive := fun _ => Operand → (V → V → Option V) → (Nat → Option V) → T V → Heap → Rs) (fun _ _ _ _ _ => .stuck)
    (fun v y f G tm h => Option.rec (motive := fun _ => V → (V → V → Option V) → Heap → Rs) (fun _ _ _ => .stuck) (fun w v f h => ofOpt h (f v w)) (ev G tm y) v f h) (ev G tm x) y f G tm h

noncomputable def oMove (x : Operand) : Rs := ofOpt h (ev G tm x)
noncomputable def oPick (c a b : Operand) : Rs :=
  match ev G tm c with
  | some (.bool t) => ofOpt h (Bool.rec (ev G tm b) (ev G tm a) t)
  | _ => .stuck
noncomputable def boxed (e : TypeId) (z : V) : Rs :=
  bif z.flat && !(Nat.beq (List.len z.cells) 0) then .val (.ptr h.n 0 0) (newRow h e (List.len z.cells) 0 (some 1) [z]) else .stuck
noncomputable def oAlloc (e : TypeId) : Rs :=
  match zero P e with
  | some z => boxed h e z
  | none => .stuck
noncomputable def oBox (e : TypeId) (x : Operand) : Rs :=
  match ev G tm x with
  | some z => boxed h e z
  | none => .stuck
noncomputable def evP (ps : List (Nat × Operand)) : Option (List (Nat × V)) :=
  mapO (fun p => match ev G tm p.2 with
    | some y => some (p.1, y)
    | none => none) ps
noncomputable def oBuild (t : TypeId) (ps : Array (Nat × Operand)) : Rs :=
  match evP G tm ps.toList with
  | some l => ofOpt h (buildParts P t l)
  | none => .stuck
noncomputable def oBuildSlice (t : TypeId) (len : Nat) (ps : Array (Nat × Operand)) : Rs :=
  match evP G tm ps.toList with
  | none => .stuck
  | some l => match sliceElem P t with
    | none => .stuck
    | some e => match zero P e with
      | none => .stuck
      | some z => bif Nat.beq (size P e) 0 || !(Nat.ble (Nat.mul len (size P e)) 65536) || !(Nat.beq (List.len z.cells) (size P e)) || !z.flat then .stuck else
        match fillElems (size P e) l (List.rep z len) with
        | some es => .val (.sl h.n 0 0 len none) (newRow h e (size P e) 0 (some len) es)
        | none => .stuck
noncomputable def oStore (t : TypeId) (a x : Operand) : Rs :=
  match ev G tm a with
  | some a => match ev G tm x with
    | some x => match store P h t a x with
      | some h' => .skip h'
      | none => .stuck
    | none => .stuck
  | none => .stuck
def notNil (x : V) : Option V :=
  match x with
  | .ptr a b c => some (.ptr a b c)
  | .gptr a b c => some (.gptr a b c)
  | .func f a b => match f with
    | .method _ => none
    | _ => some (.func f a b)
  | _ => none
noncomputable def oMakeFunc (f : Fn) (a b : Array Operand) : Rs :=
  match f with
  | .yield _ => .stuck
  | f => match mapO (ev G tm) a.toList with
    | some a => match mapO (ev G tm) b.toList with
      | some b => .val (.func f a b) h
      | none => .stuck
    | none => .stuck
noncomputable def oMakeSlice (t : TypeId) (l c : Operand) : Rs :=
  match sliceElem P t with
  | none => .stuck
  | some e => match zero P e with
    | none => .stuck
    | some z => match ev G tm l with
      | some (.int _ (.ofNat l)) => match ev G tm c with
        | some (.int _ (.ofNat c)) =>
          bif Nat.ble l c && Nat.ble (Nat.mul c (Nat.add (P.bytesOf e) 1)) 16777216 && !(Nat.beq (size P e) 0) && Nat.beq (List.len z.cells) (size P e) && z.flat then
            .val (.sl h.n 0 0 l none) (newRow h e (size P e) 0 (some c) (List.rep z l)) else .stuck
        | _ => .stuck
      | _ => .stuck
noncomputable def evO (x : Option Operand) : Option (Option V) :=
  match x with
  | none => some none
  | some y => match ev G tm y with
    | some v => some (some v)
    | none => none
noncomputable def oSlice (t : TypeId) (x : Operand) (lo hi mx : Option Operand) : Rs :=
  match ev G tm x with
  | none => .stuck
  | some x => match evO G tm lo with
    | none => .stuck
    | some lo => match evO G tm hi with
      | none => .stuck
      | some hi => match evO G tm mx with
        | none => .stuck
        | some mx => ofOpt h (slice P h t x lo hi mx)
noncomputable def oFieldAddr (t : TypeId) (x : Operand) (f : Nat) : Rs :=
  match fieldOff P t f with
  | some (ft, k) => bif Nat.beq (size P ft) 0 then .stuck else o1 G tm h x (fun a => addOff a k)
  | none => .stuck
noncomputable def oField (t : TypeId) (x : Operand) (f : Nat) : Rs :=
  match fieldOff P t f with
  | some (ft, k) => o1 G tm h x (fun a => match a with
    | .agg cs => pack P ft (List.takeN (List.dropN cs k) (size P ft))
    | _ => none)
  | none => .stuck
noncomputable def found (ok : Bool) (e : TypeId) : Option (Option V) → Option V
  | some (some x) => some (bif ok then .tup [x, .bool true] else x)
  | some none => match zero P e with
    | some z => some (bif ok then .tup [z, .bool false] else z)
    | none => none
  | none => none
noncomputable def zipV (ks : List V) : List V → List (V × V) :=
  List.rec (motive := fun _ => List V → List (V × V)) (fun _ => []) (fun k _ ih vs => match vs with
    | [] => []
    | v :: vs => (k, v) :: ih vs) ks
noncomputable def lookup (t : TypeId) (ok : Bool) (m k : V) : Option V :=
  match mapKV P t with
  | none => none
  | some (kt, e) => bif fitsT P kt k then (match m with
    | .nilm => found P ok e (some none)
    | .map r => match h.get r with
      | .map es => found P ok e (findKey k es)
      | _ => none
    | .gmap ks vs => found P ok e (findKey k (zipV ks vs))
    | _ => none) else none
noncomputable def mapPut (t : TypeId) (m k x : V) : Rs :=
  match mapKV P t with
  | none => .stuck
  | some (kt, _) => match m with
    | .map r => match h.get r with
      | .map es => bif fitsT P kt k && x.flat then (match putKey k x es with
        | some es' => .skip (h.set r (.map es'))
        | none => .stuck) else .stuck
      | _ => .stuck
    | _ => .stuck
noncomputable def oMapUpdate (t : TypeId) (m k x : Operand) : Rs :=
  match ev G tm m with
  | some m => match ev G tm k with
    | some k => match ev G tm x with
      | some x => mapPut P h t m k x
      | none => .stuck
    | none => .stuck
  | none => .stuck
noncomputable def oMakeMap (res : Option Operand) : Rs :=
  match res with
  | none => .val (.map h.n) (h.new (.map []))
  | some _ => .stuck
noncomputable def oRange (t : TypeId) (x : Operand) : Rs :=
  match P.underlying t with
  | some .string => match ev G tm x with
    | some (.str s) => .val (.iter h.n) (h.new (.siter s 0))
    | _ => .stuck
  | some (.map _ _) => match ev G tm x with
    | some (.map r) => match h.get r with
      | .map es => .val (.iter h.n) ((h.set r .dead).new (.miter es none))
      | _ => .stuck
    | some .nilm => .val (.iter h.n) (h.new (.miter [] none))
    | _ => .stuck
  | _ => .stuck
def emptyL {α : Type} : List α → Bool
  | [] => true
  | _ => false
noncomputable def oNext (it : Operand) (isString : Bool) : Rs :=
  bif isString then (match ev G tm it with
    | some (.iter r) => match h.get r with
      | .siter s pos =>
        bif Nat.blt pos (List.len s) then
          .val (.tup [.bool true, .int .i64 (Int.ofNat pos), .int .i32 (Int.ofNat (Utf8.decode ⟨⟨s⟩⟩ pos).1)]) (h.set r (.siter s (Nat.add pos (Utf8.decode ⟨⟨s⟩⟩ pos).2)))
        else .val (.tup [.bool false]) h
      | _ => .stuck
    | _ => .stuck) else (match ev G tm it with
    | some (.iter r) => match h.get r with
      | .miter left _ => match left with
        | [] => .val (.tup [.bool false]) h
        | p :: rest => bif emptyL rest then .val (.tup [.bool true, p.1, p.2]) (h.set r (.miter [] (some p))) else .stuck
      | _ => .stuck
    | _ => .stuck)
/-- The entry at which an iterator stands. -/
noncomputable def oEntry (it : Operand) : Rs :=
  match ev G tm it with
  | some (.iter r) => match h.get r with
    | .miter _ cur => match cur with
      | some p => .val (.tup [p.1, p.2]) h
      | none => .stuck
    | _ => .stuck
  | _ => .stuck
noncomputable def extract (i : Nat) (x : V) : Option V :=
  match x with
  | .tup vs => List.at vs i
  | _ => none
noncomputable def oCall (c : Call) : Rs :=
  match mapO (ev G tm) c.args.toList with
  | none => .stuck
  | some args =>
    match c.callee with
    | .builtin b => match b with
      | .recover => .recover h
      | b => builtin P b c.argTypes.toList h args
    | .value f => match ev G tm f with
      | some f => callV P h f args
      | none => .stuck
    | .invoke _ _ => .stuck
noncomputable def oDefer (c : Call) : Rs :=
  match mapO (ev G tm) c.args.toList with
  | none => .stuck
  | some args =>
    match c.callee with
    | .value f => match ev G tm f with
      | some (.func fn first cap) => match fn with
        | .func g => .defer g (List.app (List.app first args) cap) h
        | _ => .stuck
      | _ => .stuck
    | _ => .stuck
noncomputable def oPanic (x : Operand) : Rs :=
  match ev G tm x with
  | some (.iface t y) => .panic (.iface t y) h
  | _ => .stuck

def stuck1 (_ : Program) (_ : Nat → Option V) (_ : T V) (_ : Heap) : Rs := .stuck

noncomputable def operD (op : Op) : Program → (Nat → Option V) → T V → Heap → Rs :=
  Op.rec (motive := fun _ => Program → (Nat → Option V) → T V → Heap → Rs)
    (fun x _ G tm h => oMove G tm h x)
    (fun x _ G tm h => oMove G tm h x)
    (fun c a b _ G tm h => oPick G tm h c a b)
    (fun e P _ _ h => oAlloc P h e)
    (fun e x _ G tm h => oBox G tm h e x)
    (fun t ps P G tm h => oBuild P G tm h t ps)
    (fun t len ps P G tm h => oBuildSlice P G tm h t len ps)
    (fun t m k x P G tm h => oMapUpdate P G tm h t m k x)
    (fun t a P G tm h => o1 G tm h a (load P h t))
    (fun t a x P G tm h => oStore P G tm h t a x)
    (fun _ => stuck1)
    (fun _ => stuck1)
    (fun x _ G tm h => o1 G tm h x notNil)
    (fun op t x y _ P G tm h => o2 G tm h x y (binOp P h t (isConst x || isConst y) op))
    (fun op _ x _ G tm h => o1 G tm h x (unOp op))
    (fun s d x P G tm h => o1 G tm h x (convert P s d h))
    (fun _ _ => stuck1)
    (fun t x P G tm h => o1 G tm h x (fun v => bif v.flat && notIfaceT P t then some (.iface t v) else none))
    (fun f a b _ G tm h => oMakeFunc G tm h f a b)
    (fun _ res _ _ _ h => oMakeMap h res)
    (fun _ _ => stuck1)
    (fun t l c P G tm h => oMakeSlice P G tm h t l c)
    (fun t x lo hi mx P G tm h => oSlice P G tm h t x lo hi mx)
    (fun t x f P G tm h => oFieldAddr P G tm h t x f)
    (fun t x f P G tm h => oField P G tm h t x f)
    (fun t x i P G tm h => o2 G tm h x i (indexAddr P h t))
    (fun t x i P G tm h => o2 G tm h x i (index P t))
    (fun t m k ok P G tm h => o2 G tm h m k (lookup P h t ok))
    (fun t m k x P G tm h => oMapUpdate P G tm h t m k x)
    (fun _ _ _ => stuck1)
    (fun _ _ _ _ => stuck1)
    (fun t x P G tm h => oRange P G tm h t x)
    (fun it isString _ G tm h => oNext G tm h it isString)
    (fun it _ G tm h => oEntry G tm h it)
    (fun x _ t ok P G tm h => o1 G tm h x (fun x => typeAssert P x t ok))
    (fun x i _ G tm h => o1 G tm h x (extract i))
    (fun c P G tm h => oCall P G tm h c)
    (fun _ => stuck1)
    (fun c _ G tm h => oDefer G tm h c)
    (fun x _ G tm h => oPanic G tm h x)
    (fun _ _ => stuck1)
    (fun _ _ _ => stuck1)
    (fun _ _ => stuck1)
    op

noncomputable def oper (o : Oper) : Rs := operD o.op P G tm h

/-- Pure data already, to a depth. -/
noncomputable def groundL (f : V → Bool) (l : List V) : Bool := List.rec true (fun v _ ih => bif f v then ih else false) l
noncomputable def ground (k : Nat) : V → Bool :=
  Nat.rec (motive := fun _ => V → Bool) (fun _ => false) (fun _ ih v => match v with
    | .int _ _ => true
    | .bool _ => true
    | .str _ => true
    | .nilp => true
    | .nils => true
    | .nilm => true
    | .nilf => true
    | .nili => true
    | .gsl _ _ _ => true
    | .osl _ _ => true
    | .gptr _ _ _ => true
    | .gmap _ _ => true
    | .func f a b => match f with
      | .func _ => bif groundL ih a then groundL ih b else false
      | _ => false
    | .agg vs => groundL ih vs
    | .iface _ x => ih x
    | _ => false) k

/-- A slice that is written out, of pure data: data itself. -/
noncomputable def oLit (t : TypeId) (len : Nat) (ps : Array (Nat × Operand)) : Rs :=
  match evP G tm ps.toList with
  | none => .stuck
  | some l => match sliceElem P t with
    | none => .stuck
    | some e => match zero P e with
      | none => .stuck
      | some z => bif Nat.beq (size P e) 0 || !(Nat.ble (Nat.mul len (size P e)) 65536) || !(Nat.beq (List.len z.cells) (size P e)) || !z.flat then .stuck else
        match fillElems (size P e) l (List.rep z len) with
        | some es => bif groundL (ground 3) es then .val (.gsl (size P e) es (some len)) h else .stuck
        | none => .stuck

noncomputable def operL (o : Oper) : Rs :=
  match o.op with
  | .buildSlice t len ps => oLit P G tm h t len ps
  | _ => oper P G tm h o
end ops
end

/-- How a piece of code ends. -/
inductive Ex where
  | normal
  | exit (id : Nat)
  | goto (l : Nat)
  | ret
  | panic (v : V)

/-- A frame as it runs: how many slots, the slots; the blocks of deferred calls of its loops over functions; what it has deferred; which loop's round it is; is it of a deferred call (and which panic may it recover), has it recovered? -/
structure Fr where
  fn : FuncId
  n : Nat
  tm : T V
  marks : List Nat
  defers : List (FuncId × List V)
  round : Option Nat
  dk : Option (Option V)
  did : Bool

/-- Are two values the same, to a depth? -/
noncomputable def veqL (f : V → V → Bool) (a : List V) : List V → Bool :=
  List.rec (motive := fun _ => List V → Bool) (fun b => isNil b) (fun x _ ih b => match b with
    | [] => false
    | y :: ys => bif f x y then ih ys else false) a
def optEq (a b : Option Nat) : Bool :=
  match a with
  | none => (match b with | none => true | some _ => false)
  | some x => (match b with | none => false | some y => Nat.beq x y)
noncomputable def veq (k : Nat) : V → V → Bool :=
  Nat.rec (motive := fun _ => V → V → Bool) (fun _ _ => false) (fun _ ih x y => match x with
    | .int k a => (match y with | .int k' b => kindEq k k' && ieq a b | _ => false)
    | .bool a => (match y with | .bool b => Bool.rec (!b) b a | _ => false)
    | .str a => (match y with | .str b => strEq a b | _ => false)
    | .nilp => (match y with | .nilp => true | _ => false)
    | .ptr a b c => (match y with | .ptr a' b' c' => Nat.beq a a' && Nat.beq b b' && Nat.beq c c' | _ => false)
    | .nils => (match y with | .nils => true | _ => false)
    | .sl a b c d e => (match y with | .sl a' b' c' d' e' => Nat.beq a a' && Nat.beq b b' && Nat.beq c c' && Nat.beq d d' && optEq e e' | _ => false)
    | .gsl s es c => (match y with | .gsl s' es' c' => Nat.beq s s' && optEq c c' && veqL ih es es' | _ => false)
    | .gptr s es c => (match y with | .gptr s' es' c' => Nat.beq s s' && Nat.beq c c' && veqL ih es es' | _ => false)
    | .nilm => (match y with | .nilm => true | _ => false)
    | .map a => (match y with | .map a' => Nat.beq a a' | _ => false)
    | .nilf => (match y with | .nilf => true | _ => false)
    | .func f a b => (match y with | .func f' a' b' => decide (f = f') && veqL ih a a' && veqL ih b b' | _ => false)
    | .nili => (match y with | .nili => true | _ => false)
    | .iface t v => (match y with | .iface t' v' => Nat.beq t t' && ih v v' | _ => false)
    | .agg a => (match y with | .agg a' => veqL ih a a' | _ => false)
    | .tup a => (match y with | .tup a' => veqL ih a a' | _ => false)
    | .imod k a b => (match y with | .imod k' a' b' => kindEq k k' && Nat.beq a a' && Nat.beq b b' | _ => false)
    | _ => false) k

end Go.AM
