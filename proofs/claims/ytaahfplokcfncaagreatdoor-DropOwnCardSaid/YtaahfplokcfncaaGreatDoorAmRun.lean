/-
  THE ABSTRACT MACHINE's RUN: code, calls, loops over functions. A call whose arguments are pure data runs over a heap of its own.
-/
import Derived.Test.YtaahfplokcfncaaGreatDoorAmCore
namespace Go.AM

/-- Pure data out of values: what they name of the heap is read, and may not be written any more. -/
noncomputable def pubL (f : Heap → V → Option (V × Heap)) (l : List V) : Heap → Option (List V × Heap) :=
  List.rec (motive := fun _ => Heap → Option (List V × Heap)) (fun h => some ([], h)) (fun v _ ih h => match f h v with
    | none => none
    | some (v', h1) => match ih h1 with
      | none => none
      | some (l', h2) => some (v' :: l', h2)) l

def pubA (w : List V → V) : Option (List V × Heap) → Option (V × Heap)
  | some (l, h) => some (w l, h)
  | none => none

def memN (r : Nat) : List Nat → Bool
  | [] => false
  | x :: l => bif Nat.beq x r then true else memN r l

/-- 'seen': rows that are handed over whole, which nothing else may name. -/
noncomputable def pubSl (f : Heap → V → Option (V × Heap)) (seen : List Nat) (h : Heap) (r ver o n : Nat) (c : Option Nat) : Option (V × Heap) :=
  match h.get r with
  | .row ver' _ sz _ cap es =>
    bif Nat.beq ver ver' && !(memN r seen) && Nat.ble (Nat.add o n) (List.len es) then
      match pubL f (List.takeN (List.dropN es o) n) h with
      | some (es', h1) =>
        match h1.get r with
        | .row v2 t2 s2 pb2 c2 e2 => bif Nat.beq ver v2 then some (.gsl sz es' (match c with | some c => some c | none => subO cap o), h1.set r (.row v2 t2 s2 (Nat.max pb2 (Nat.add o n)) c2 e2)) else none
        | _ => none
      | none => none
    else none
  | _ => none

/-- A function, and what it has caught. -/
def pubFn (f : Fn) (k : Heap → Option (List V × Heap)) : Option (List V × Heap) → Option (V × Heap)
  | some (a, h1) => match k h1 with
    | some (b, h2) => some (.func f a b, h2)
    | none => none
  | none => none

noncomputable def rowLen (h : Heap) (r : Nat) : Nat :=
  match h.get r with
  | .row _ _ _ _ _ es => List.len es
  | _ => 0
/-- What a pointer names: the row becomes data as a whole. -/
noncomputable def pubPt (f : Heap → V → Option (V × Heap)) (seen : List Nat) (h : Heap) (r ver off : Nat) : Option (V × Heap) :=
  match pubSl f seen h r ver 0 (rowLen h r) none with
  | some (x, h') => match x with
    | .gsl sz es _ => some (.gptr sz es off, h')
    | _ => none
  | none => none

noncomputable def fstL (es : List (V × V)) : List V := List.rec [] (fun p _ ih => p.1 :: ih) es
noncomputable def sndL (es : List (V × V)) : List V := List.rec [] (fun p _ ih => p.2 :: ih) es
/-- A map becomes data: nothing else may look at it any more. -/
noncomputable def pubMp (f : Heap → V → Option (V × Heap)) (seen : List Nat) (h : Heap) (r : Nat) : Option (V × Heap) :=
  match h.get r with
  | .map es => bif memN r seen then none else
    match pubL f (fstL es) h with
    | none => none
    | some (ks, h1) => match pubL f (sndL es) h1 with
      | none => none
      | some (vs, h2) => match h2.get r with
        | .map _ => some (.gmap ks vs, h2.set r .dead)
        | _ => none
  | _ => none

noncomputable def pub (seen : List Nat) (k : Nat) : Heap → V → Option (V × Heap) :=
  Nat.rec (motive := fun _ => Heap → V → Option (V × Heap)) (fun _ _ => none) (fun _ ih h v =>
    match v with
    | .int a b => some (.int a b, h)
    | .bool b => some (.bool b, h)
    | .str s => some (.str s, h)
    | .nilp => some (.nilp, h)
    | .nils => some (.nils, h)
    | .nilm => some (.nilm, h)
    | .nilf => some (.nilf, h)
    | .nili => some (.nili, h)
    | .gsl a b c => some (.gsl a b c, h)
    | .osl a b => some (.osl a b, h)
    | .gptr a b c => some (.gptr a b c, h)
    | .func f a b => match f with
      | .func _ => pubFn f (pubL ih b) (pubL ih a h)
      | _ => none
    | .agg vs => pubA .agg (pubL ih vs h)
    | .tup vs => pubA .tup (pubL ih vs h)
    | .iface t x => match ih h x with
      | some (x', h') => some (.iface t x', h')
      | none => none
    | .sl r ver o n c => pubSl ih seen h r ver o n c
    | .ptr r ver off => pubPt ih seen h r ver off
    | .gmap a b => some (.gmap a b, h)
    | .map r => pubMp ih seen h r
    | _ => none) k

def depth : Nat := 40
noncomputable def every {α : Type} (f : α → Bool) (l : List α) : Bool := List.rec true (fun x _ ih => bif f x then ih else false) l

/-- What a pure call hands back: a row that nothing else names is handed over whole. -/
noncomputable def retV (h : Heap) (seen : List Nat) (v : V) : Option (V × Heap × List Nat) :=
  match v with
  | .sl r ver o n c =>
    match h.get r with
    | .row ver' ty sz _ cap es =>
      bif Nat.beq ver ver' && Nat.beq o 0 && Nat.beq n (List.len es) && noCap c && !(memN r seen) then
        match pubL (pub (r :: seen) depth) es h with
        | some (es', h1) => match h1.get r with
          | .row _ _ _ pb _ _ => some (.fsl ty sz pb es' cap, h1, r :: seen)
          | _ => none
        | none => none
      else match pub seen depth h v with
        | some (v', h') => some (v', h', seen)
        | none => none
    | _ => none
  | v => match pub seen depth h v with
    | some (v', h') => some (v', h', seen)
    | none => none

noncomputable def retL (l : List V) : Heap → List Nat → Option (List V × Heap × List Nat) :=
  List.rec (motive := fun _ => Heap → List Nat → Option (List V × Heap × List Nat)) (fun h seen => some ([], h, seen)) (fun v _ ih h seen => match retV h seen v with
    | none => none
    | some (v', h1, s1) => match ih h1 s1 with
      | none => none
      | some (l', h2, s2) => some (v' :: l', h2, s2)) l

/-- The result of a pure call: its parts, and the fields of a part, one after the other. -/
noncomputable def retPart (h : Heap) (seen : List Nat) (v : V) : Option (V × Heap × List Nat) :=
  match v with
  | .agg vs => match retL vs h seen with
    | some (l, h', s) => some (.agg l, h', s)
    | none => none
  | v => retV h seen v

noncomputable def retParts (l : List V) : Heap → List Nat → Option (List V × Heap × List Nat) :=
  List.rec (motive := fun _ => Heap → List Nat → Option (List V × Heap × List Nat)) (fun h seen => some ([], h, seen)) (fun v _ ih h seen => match retPart h seen v with
    | none => none
    | some (v', h1, s1) => match ih h1 s1 with
      | none => none
      | some (l', h2, s2) => some (v' :: l', h2, s2)) l

noncomputable def retAll (h : Heap) (v : V) : Option V :=
  match v with
  | .tup vs => match retParts vs h [] with
    | some (l, _) => some (.tup l)
    | none => none
  | v => match retPart h [] v with
    | some (v', _) => some v'
    | none => none

/-- The caller's side: what was handed over whole lies in the caller's heap. -/
noncomputable def thaw1 (h : Heap) (v : V) : V × Heap :=
  match v with
  | .fsl ty sz pb es cap => (.sl h.n 0 0 (List.len es) none, h.new (.row 0 ty sz pb cap es))
  | v => (v, h)

noncomputable def thawL (l : List V) : Heap → List V × Heap :=
  List.rec (motive := fun _ => Heap → List V × Heap) (fun h => ([], h)) (fun v _ ih h => match thaw1 h v with
    | (v', h1) => match ih h1 with
      | (l', h2) => (v' :: l', h2)) l

noncomputable def thawPart (h : Heap) (v : V) : V × Heap :=
  match v with
  | .agg vs => match thawL vs h with
    | (l, h') => (.agg l, h')
  | v => thaw1 h v

noncomputable def thawParts (l : List V) : Heap → List V × Heap :=
  List.rec (motive := fun _ => Heap → List V × Heap) (fun h => ([], h)) (fun v _ ih h => match thawPart h v with
    | (v', h1) => match ih h1 with
      | (l', h2) => (v' :: l', h2)) l

noncomputable def thaw (h : Heap) (v : V) : V × Heap :=
  match v with
  | .tup vs => match thawParts vs h with
    | (l, h') => (.tup l, h')
  | v => thawPart h v

/-- In a region that draws its order nothing is handed over whole: it is data. -/
noncomputable def still1 (v : V) : V :=
  match v with
  | .fsl _ sz _ es cap => .gsl sz es cap
  | v => v
noncomputable def mapL (f : V → V) (l : List V) : List V := List.rec [] (fun v _ ih => f v :: ih) l
noncomputable def stillPart (v : V) : V :=
  match v with
  | .agg vs => .agg (mapL still1 vs)
  | v => still1 v
noncomputable def still (v : V) : V :=
  match v with
  | .tup vs => .tup (mapL stillPart vs)
  | v => stillPart v

/-- What the machine is told of a program: which functions share their caller's heap; of which of these the result is made data at once; which calls have a contract; what some variables hold; in which functions slices of data that are written out are data at once; which calls give plain numbers and texts, so that what they were told may be written behind them; of which calls the result is data at once. -/
structure Env where
  shared : FuncId → Bool
  pubRet : FuncId → Bool
  prim : FuncId → List V → Option V
  glob : Nat → Option V
  lit : FuncId → Bool := fun _ => false
  borrow : FuncId → Bool := fun _ => false
  data : FuncId → Bool := fun _ => false

inductive Task where
  | code (c : Code) (fr : Fr) (h : Heap)
  | call (f : FuncId) (args : List V) (h : Heap)
  | yield (l : Nat) (args : List V) (h : Heap)
  | dcall (f : FuncId) (args : List V) (pan : Option V) (h : Heap)

inductive Res where
  | code (e : Ex) (fr : Fr) (h : Heap)
  | ret (v : V) (h : Heap)
  | panic (v : V) (h : Heap)
  | dret (did : Bool) (h : Heap)
  | none (f : FuncId) (o : Option Oper)

/-- Which operations leave the heap as it is. -/
def isRead (E : Env) (o : Op) : Bool :=
  match o with
  | .move _ | .assign _ | .pick .. | .build .. | .buildSlice .. | .load .. | .nilCheck _ | .binOp .. | .unOp .. | .convert .. | .makeInterface .. | .makeFunc .. | .slice .. | .fieldAddr .. | .field .. | .indexAddr .. | .index .. | .lookup .. | .typeAssert .. | .extract .. => true
  | .call c => match c.callee with
    | .builtin .len | .builtin .cap | .builtin .max | .builtin .min | .builtin .unsafeSliceData => true
    | .value (.func f) => !(E.shared f)
    | _ => false
  | _ => false

/-- A call whose result hangs on its arguments alone. -/
def isPure (E : Env) (o : Op) : Bool :=
  match o with
  | .call c => match c.callee with
    | .value (.func f) => !(E.shared f)
    | _ => false
  | _ => false

def tmpsOf (l : List Operand) : List Tmp := l.filterMap fun | .tmp t => some t | _ => none
noncomputable def guardSlot (all : List Oper) (o : Oper) : List Tmp :=
  match o.guard with
  | some (j, _) => (match List.at all j with
    | some x => x.dst.toList
    | none => [])
  | none => []
/-- The slots that an operation looks at. -/
noncomputable def looks (all : List Oper) (o : Oper) : List Tmp := List.app o.dst.toList (List.app (tmpsOf o.op.operands.toList) (guardSlot all o))

/-- An operation of a region that draws its order: its place; may it turn the heap; what lies ahead of it (bits); the slots that it looks at. -/
structure DOp where
  o : Oper
  i : Nat
  w : Bool
  b : Nat
  lk : List Tmp

def tb (m n : Nat) : Bool := Nat.beq (Nat.land (Nat.shiftRight m n) 1) 1

def bindsAny (e : Edge) : Bool :=
  match e.ground with
  | .textOnly _ => false
  | .gcOnly _ => false
  | _ => true

noncomputable def getN (l : List Nat) (i : Nat) : Nat :=
  match List.at l i with
  | some x => x
  | none => 0

noncomputable def bitsOf (tbl : List Nat) (es : List Edge) : Nat := List.rec 0 (fun e _ ih => bif bindsAny e then Nat.lor (Nat.lor (Nat.pow 2 e.on) (getN tbl e.on)) ih else ih) es
noncomputable def mkOps (E : Env) (all : List Oper) (l : List Oper) : Nat → List Nat → List DOp :=
  List.rec (motive := fun _ => Nat → List Nat → List DOp) (fun _ _ => []) (fun o _ ih i tbl => ⟨o, i, !(isRead E o.op), bitsOf tbl o.after.toList, looks all o⟩ :: ih (Nat.succ i) (List.app tbl [bitsOf tbl o.after.toList])) l


noncomputable def edgesOk (d : DOp) : Bool := every (fun e => bif bindsAny e then Nat.blt e.on d.i else true) d.o.after.toList
def missDst (o : Oper) (l : List Tmp) : Bool :=
  match o.dst with
  | some d => !(memN d l)
  | none => true
def pairOk (a b : DOp) : Bool := tb b.b a.i || (!(a.w && b.w) && missDst a.o b.lk && missDst b.o a.lk)
noncomputable def pairsOk (l : List DOp) : Bool := List.rec true (fun d l ih => bif every (pairOk d) l then ih else false) l

/-- What a region's order hangs on; none: it may not be open. -/
noncomputable def drawInfo (E : Env) (all : List Oper) : Option (List DOp) :=
  bif every edgesOk (mkOps E all all 0 []) && pairsOk (mkOps E all all 0 []) then some (mkOps E all all 0 []) else none

/-- Is an operation wanted? none: it can't be told. -/
noncomputable def wantedG (g : Nat × Bool) (all : List Oper) (tm : T V) : Option Bool :=
  match List.at all g.1 with
  | some o => match o.dst with
    | some d => match tm.get undef d with
      | .bool b => some (Bool.rec (!g.2) g.2 b)
      | .any => .none
      | .fsl _ _ _ _ _ => .none
      | _ => some false
    | .none => some false
  | .none => some false
noncomputable def wanted (all : List Oper) (fr : Fr) (o : Oper) : Option Bool :=
  Option.rec (motive := fun _ => List Oper → T V → Option Bool) (fun _ _ => some true) wantedG o.guard all fr.tm

noncomputable def thawR (h : Heap) (v : V) : Res :=
  match thaw h v with
  | (v', h') => .ret v' h'

noncomputable def endPure (k : Heap → V → Res) (np : Bool) (h : Heap) (f : FuncId) (r : Res) : Res :=
  match r with
  | .ret v hc => match retAll hc v with
    | some g => k h g
    | .none => .none f .none
  | .panic v hc => match pub [] depth hc v with
    | some (g, _) => Bool.rec (.panic g h) (.none f .none) np
    | .none => .none f .none
  | .none a b => .none a b
  | _ => .none f .none

/-- Numbers, truths and texts. -/
def plain1 : V → Bool
  | .int _ _ => true
  | .bool _ => true
  | .str _ => true
  | _ => false
noncomputable def plainV (v : V) : Bool :=
  match v with
  | .tup vs => every plain1 vs
  | v => plain1 v
/-- The result of a pure call, as its caller gets it. -/
noncomputable def give (E : Env) (f : FuncId) (h : Heap) (v : V) : Option (V × Heap) :=
  Bool.rec (Bool.rec (some (thaw h v)) (some (still v, h)) (E.data f)) (Bool.rec none (some (v, h)) (plainV v)) (E.borrow f)
noncomputable def giveR (E : Env) (f : FuncId) (h : Heap) (v : V) : Res :=
  match give E f h v with
  | some (v', h') => .ret v' h'
  | .none => .none f .none

noncomputable def callPure (E : Env) (ih : Task → Res) (f : FuncId) (args : List V) (h : Heap) : Res :=
  match pubL (pub [] depth) args h with
  | .none => .none f .none
  | some (gs, h1) =>
    match E.prim f gs with
    | some v => giveR E f (Bool.rec h1 h (E.borrow f)) v
    | .none => endPure (giveR E f) (E.borrow f) (Bool.rec h1 h (E.borrow f)) f (ih (.call f gs Heap.empty))

noncomputable def stillR (h : Heap) (v : V) : Res := .ret (still v) h

noncomputable def callStill (E : Env) (ih : Task → Res) (f : FuncId) (args : List V) (h : Heap) : Res :=
  bif groundL (ground 3) args then
    (match E.prim f args with
    | some v => stillR h v
    | .none => endPure stillR false h f (ih (.call f args Heap.empty)))
  else .none f .none

/-- The result of a call that shared the heap, made data. -/
noncomputable def pubR (f : FuncId) (r : Res) : Res :=
  match r with
  | .ret v h => match pub [] depth h v with
    | some (v', h') => .ret v' h'
    | .none => .none f .none
  | r => r

noncomputable def callShared (E : Env) (ih : Task → Res) (f : FuncId) (args : List V) (h : Heap) : Res :=
  Bool.rec (ih (.call f args h)) (pubR f (ih (.call f args h))) (E.pubRet f)

noncomputable def callAny (E : Env) (ih : Task → Res) (lit : Bool) (f : FuncId) (args : List V) (h : Heap) : Res :=
  Bool.rec (Bool.rec (callPure E ih f args h) (callStill E ih f args h) lit) (callShared E ih f args h) (E.shared f)

/-- A slot is written; none: there is no such slot. -/
noncomputable def Fr.putD (d : Tmp) (fr : Fr) (v : V) : Option Fr :=
  Fr.rec (motive := fun _ => Tmp → V → Option Fr) (fun fn n tm marks defers round dk did d v => Bool.rec .none (some ⟨fn, n, tm.set undef v d, marks, defers, round, dk, did⟩) (Nat.blt d n)) fr d v
noncomputable def Fr.put (fr : Fr) (d : Option Tmp) (v : V) : Option Fr :=
  Option.rec (motive := fun _ => Fr → V → Option Fr) (fun fr _ => some fr) Fr.putD d fr v

noncomputable def goOn (o : Oper) (fr : Fr) (ih : Fr → Heap → Res) (v : V) (h : Heap) : Res :=
  Option.rec (motive := fun _ => Oper → Fr → (Fr → Heap → Res) → Heap → Res) (fun o fr _ _ => .none fr.fn (some o)) (fun fr' _ _ ih h => ih fr' h) (fr.put o.dst v) o fr ih h

noncomputable def afterCall (o : Oper) (fr : Fr) (ih : Fr → Heap → Res) (pk : V → Heap → Res) (r : Res) : Res :=
  Res.rec (motive := fun _ => Oper → Fr → (Fr → Heap → Res) → (V → Heap → Res) → Res) (fun _ _ _ o fr _ _ => .none fr.fn (some o)) (fun v h o fr ih _ => goOn o fr ih v h) (fun v h _ _ _ pk => pk v h) (fun _ _ o fr _ _ => .none fr.fn (some o)) (fun a b _ _ _ _ => .none a b) r o fr ih pk

/-- recover() is the first thing of a deferred call, or it isn't here. -/
noncomputable def doRecover (o : Oper) (fr : Fr) (_ : Fr → Heap → Res) (_ : Heap) : Res := .none fr.fn (some o)
noncomputable def doDefer (o : Oper) (fr : Fr) (ih : Fr → Heap → Res) (f : FuncId) (args : List V) (h : Heap) : Res :=
  match fr.round with
  | some _ => .none fr.fn (some o)
  | .none => match fr.marks with
    | [] => goOn o { fr with defers := (f, args) :: fr.defers } ih undef h
    | _ => .none fr.fn (some o)

noncomputable def afterOp (E : Env) (ihr : Task → Res) (lit : Bool) (o : Oper) (fr : Fr) (ih : Fr → Heap → Res) (pk : V → Heap → Res) (r : Rs) : Res :=
  Rs.rec (motive := fun _ => Env → (Task → Res) → Bool → Oper → Fr → (Fr → Heap → Res) → (V → Heap → Res) → Res)
    (fun v h _ _ _ o fr ih _ => goOn o fr ih v h)
    (fun h _ _ _ o fr ih _ => goOn o fr ih undef h)
    (fun f args h E ihr lit o fr ih pk => afterCall o fr ih pk (callAny E ihr lit f args h))
    (fun l args h _ ihr _ o fr ih pk => afterCall o fr ih pk (ihr (.yield l args h)))
    (fun v h _ _ _ _ _ _ pk => pk v h)
    (fun f args h _ _ _ o fr ih _ => doDefer o fr ih f args h)
    (fun h _ _ _ o fr ih _ => doRecover o fr ih h)
    (fun _ _ _ o fr _ _ => .none fr.fn (some o)) r E ihr lit o fr ih pk

def orLit (r r' : Rs) : Rs :=
  match r with
  | .stuck => r'
  | r => r
noncomputable def operE (lit : Bool) (P : Program) (G : Nat → Option V) (tm : T V) (h : Heap) (o : Oper) : Rs := Bool.rec (oper P G tm h o) (orLit (operL P G tm h o) (oper P G tm h o)) lit

noncomputable def runOp (P : Program) (E : Env) (ihr : Task → Res) (all : List Oper) (o : Oper) (ih : Fr → Heap → Res) (fr : Fr) (h : Heap) : Res :=
  Option.rec (motive := fun _ => Program → Env → (Task → Res) → Oper → (Fr → Heap → Res) → Fr → Heap → Res) (fun _ _ _ o _ fr _ => .none fr.fn (some o))
    (fun b P E ihr o ih fr h => Bool.rec (goOn o fr ih undef h) (afterOp E ihr false o fr ih (fun v h => .code (.panic v) fr h) (operE (E.lit fr.fn) P E.glob fr.tm h o)) b) (wanted all fr o) P E ihr o ih fr h

noncomputable def runOps (P : Program) (E : Env) (ihr : Task → Res) (all : List Oper) (l : List Oper) : Fr → Heap → Res :=
  List.rec (motive := fun _ => Program → Env → (Task → Res) → List Oper → Fr → Heap → Res) (fun _ _ _ _ fr h => .code .normal fr h)
    (fun o _ ih P E ihr all fr h => runOp P E ihr all o (ih P E ihr all) fr h) l P E ihr all

noncomputable def revL {α : Type} (l : List α) : List α → List α :=
  List.rec (motive := fun _ => List α → List α) (fun a => a) (fun x _ ih a => ih (x :: a)) l

/-- What an operation comes to, its calls too. -/
inductive Outc where
  | val (v : V) (h : Heap)
  | panic (v : V) (h : Heap)
  | stuck

def orOf (r : Res) : Outc :=
  match r with
  | .ret v h => .val v h
  | .panic v h => .panic v h
  | _ => .stuck

noncomputable def doOp (P : Program) (E : Env) (ihr : Task → Res) (tm : T V) (h : Heap) (o : Oper) : Outc :=
  match operL P E.glob tm h o with
  | .val v h' => .val v h'
  | .skip h' => .val undef h'
  | .call f args h' => orOf (callAny E ihr true f args h')
  | .yield l args h' => orOf (ihr (.yield l args h'))
  | .panic v h' => .panic v h'
  | _ => .stuck

/-- A heap between two writers: what lies ahead of the one before (bits), the heap, the place of the next one. -/
structure Hp where
  pb : Nat
  h : Heap
  nx : Option Nat

/-- What was read. -/
structure Rc where
  o : Oper
  i : Nat
  b : Nat
  tm : T V
  v : V

structure Pn where
  i : Nat
  v : V
  h : Heap

inductive DR where
  | done (fr : Fr) (h : Heap) (hps : List Hp) (rcs : List Rc) (pan : Option Pn)
  | stuck (o : Option Oper)

def panAt (pan : Option Pn) (b : Nat) : Bool :=
  match pan with
  | some p => tb b p.i
  | none => false
def noPan (pan : Option Pn) : Bool :=
  match pan with
  | some _ => false
  | none => true

abbrev DK := Fr → Heap → Nat → List Hp → List Rc → Option Pn → DR

noncomputable def dPut (o : Oper) (v : V) (fr : Fr) (k : Fr → DR) : DR :=
  Option.rec (motive := fun _ => (Fr → DR) → DR) (fun _ => .stuck (some o)) (fun fr' k => k fr') (fr.put o.dst v) k

noncomputable def dVal (E : Env) (d : DOp) (ih : DK) (fr : Fr) (h : Heap) (pb : Nat) (hs : List Hp) (rs : List Rc) (pan : Option Pn) (r : Outc) : DR :=
  match r with
  | .val v h' => bif d.w then (bif noPan pan then dPut d.o v fr (fun fr' => ih fr' h' d.b (⟨pb, h, some d.i⟩ :: hs) rs pan) else .stuck (some d.o))
      else dPut d.o v fr (fun fr' => ih fr' h pb hs (bif isPure E d.o.op then rs else ⟨d.o, d.i, d.b, fr.tm, v⟩ :: rs) pan)
  | .panic v h' => bif d.w && noPan pan then ih fr h pb (⟨pb, h, some d.i⟩ :: hs) rs (some ⟨d.i, v, h'⟩) else .stuck (some d.o)
  | .stuck => .stuck (some d.o)

noncomputable def dStep (P : Program) (E : Env) (ihr : Task → Res) (all : List Oper) (d : DOp) (ih : DK) : DK := fun fr h pb hs rs pan =>
  bif panAt pan d.b then ih fr h pb hs rs pan
  else match wanted all fr d.o with
    | .none => .stuck (some d.o)
    | some t => bif t then dVal E d ih fr h pb hs rs pan (doOp P E ihr fr.tm h d.o)
      else bif d.w then (bif noPan pan then dPut d.o undef fr (fun fr' => ih fr' h d.b (⟨pb, h, some d.i⟩ :: hs) rs pan) else .stuck (some d.o))
      else dPut d.o undef fr (fun fr' => ih fr' h pb hs rs pan)

noncomputable def dRun (P : Program) (E : Env) (ihr : Task → Res) (all : List Oper) (l : List DOp) : DK :=
  List.rec (motive := fun _ => DK) (fun fr h pb hs rs pan => .done fr h (bif noPan pan then ⟨pb, h, none⟩ :: hs else hs) rs pan)
    (fun d _ ih => dStep P E ihr all d ih) l

def nxAt (b : Nat) : Option Nat → Bool
  | some j => tb b j
  | none => false
noncomputable def ckOne (P : Program) (E : Env) (ihr : Task → Res) (r : Rc) (e : Hp) : Bool :=
  bif tb e.pb r.i then true
  else bif nxAt r.b e.nx then true
  else match doOp P E ihr r.tm e.h r.o with
    | .val v _ => veq depth r.v v
    | _ => false
noncomputable def noWriters (l : List DOp) : Bool := every (fun d => !d.w) l
noncomputable def ckAll (P : Program) (E : Env) (ihr : Task → Res) (hps : List Hp) (rcs : List Rc) : Bool := every (fun r => every (ckOne P E ihr r) hps) rcs

noncomputable def lose (l : List DOp) : Fr → Fr :=
  List.rec (motive := fun _ => Fr → Fr) (fun fr => fr) (fun d _ ih fr => match fr.put d.o.dst lost with
    | some fr' => ih fr'
    | none => ih fr) l

noncomputable def endDraw (P : Program) (E : Env) (ihr : Task → Res) (l : List DOp) (fn : FuncId) (r : DR) : Res :=
  match r with
  | .stuck o => .none fn o
  | .done fr h hps rcs pan => bif noWriters l || ckAll P E ihr hps rcs then (match pan with
      | none => .code .normal fr h
      | some p => .code (.panic p.v) (lose l fr) p.h)
    else .none fn none

noncomputable def sDraw (P : Program) (E : Env) (ihr : Task → Res) (all : List Oper) (fr : Fr) (h : Heap) : Res :=
  match (bif P.follows .mixedOrders then drawInfo E all else none) with
  | none => .none fr.fn none
  | some l => endDraw P E ihr l fr.fn (dRun P E ihr all l fr h 0 [] [] none)

noncomputable def args0 (l : List V) : Nat → T V → T V :=
  List.rec (motive := fun _ => Nat → T V → T V) (fun _ t => t) (fun v _ ih i t => ih (Nat.succ i) (t.set undef v i)) l

/-- A tree with places enough for so many slots. -/
noncomputable def full (k : Nat) : T V := Nat.rec .e (fun _ ih => .n ih undef ih) k
def levels (n : Nat) : Nat := Nat.log2 n + 1

noncomputable def result1 (P : Program) (fr : Fr) (h : Heap) (r : ResultVar) : Option V :=
  match r with
  | .tmp t => notLost (fr.tm.get undef t)
  | .cell a t => load P h t (fr.tm.get undef a)

noncomputable def results (P : Program) (fn : Func) (fr : Fr) (h : Heap) : Option V :=
  match mapO (result1 P fr h) fn.results.toList with
  | some [v] => some v
  | some vs => some (.tup vs)
  | .none => .none

noncomputable def countByte (c : UInt8) (l : List UInt8) : Nat := List.rec 0 (fun b _ ih => bif byteEq b c then Nat.succ ih else ih) l

noncomputable def findByte (c : UInt8) (l : List UInt8) : Nat → Int :=
  List.rec (motive := fun _ => Nat → Int) (fun _ => -1) (fun b _ ih i => bif byteEq b c then Int.ofNat i else ih (Nat.succ i)) l

noncomputable def xSame (args : List V) (h : Heap) : Option (V × Heap) :=
  match args with
  | [v] => some (v, h)
  | _ => .none
noncomputable def xCount (args : List V) (h : Heap) : Option (V × Heap) :=
  match args with
  | [.str s, .int .u8 c] => some (.int .i64 (Int.ofNat (countByte (UInt8.ofNat c.toNat) s)), h)
  | _ => .none
noncomputable def xIndexByte (args : List V) (h : Heap) : Option (V × Heap) :=
  match args with
  | [.str s, .int .u8 c] => some (.int .i64 (findByte (UInt8.ofNat c.toNat) s 0), h)
  | _ => .none
noncomputable def xMake (P : Program) (fn : Func) (args : List V) (h : Heap) : Option (V × Heap) :=
  match args with
  | [.int .i64 (.ofNat n)] => match fn.resultTypes.toList with
    | [t] => match sliceElem P t with
      | some e => bif Nat.ble n 16777216 && Nat.beq (size P e) 1 then some (.sl h.n 0 0 n .none, newRow h e 1 0 none []) else .none
      | .none => .none
    | _ => .none
  | _ => .none

/-- Functions without a Go body. -/
noncomputable def extern (P : Program) (fn : Func) (args : List V) (h : Heap) : Option (V × Heap) :=
  if fn.origin ≠ "" then .none
  else if fn.name = "internal/abi.NoEscape" then xSame args h
  else if fn.name = "internal/bytealg.CountString" then xCount args h
  else if fn.name = "internal/bytealg.IndexByteString" then xIndexByte args h
  else if fn.name = "internal/bytealg.MakeNoZero" then xMake P fn args h
  else .none

noncomputable def endRound (l : Nat) (r : Res) : Res :=
  match r with
  | .code e _ h => match h.get l with
    | .loop st _ fn n tm ps a b d => match st with
      | .busy => match e with
        | .normal => .ret (.bool true) (h.set l (.loop .ready .none fn n tm ps a b d))
        | .ret => .ret (.bool false) (h.set l (.loop .done (some .ret) fn n tm ps a b d))
        | .exit id => .ret (.bool false) (h.set l (.loop .done (some (.exit id)) fn n tm ps a b d))
        | .panic _ => .none l .none
        | .goto _ => .none l .none
      | _ => .none l .none
    | _ => .none l .none
  | r => r

noncomputable def setParams (ps : List Tmp) (n : Nat) : List V → T V → Option (T V) :=
  List.rec (motive := fun _ => List V → T V → Option (T V)) (fun vs t => match vs with
      | [] => some t
      | _ => .none) (fun p _ ih vs t => match vs with
    | [] => .none
    | v :: vs => bif Nat.blt p n then ih vs (t.set undef v p) else .none) ps

noncomputable def sSeq (ih : Task → Res) (b : Code) (r : Res) : Res :=
  match r with
  | .code e fr h => match e with
    | .normal => ih (.code b fr h)
    | _ => .code e fr h
  | r => r

noncomputable def sCond (E : Env) (ih : Task → Res) (c : Operand) (a b : Code) (fr : Fr) (h : Heap) : Res :=
  match ev E.glob fr.tm c with
  | some (.bool t) => Bool.rec (ih (.code b fr h)) (ih (.code a fr h)) t
  | _ => .none fr.fn .none

def sBlock (id : Nat) (r : Res) : Res :=
  match r with
  | .code e fr h => match e with
    | .exit id' => bif Nat.beq id' id then .code .normal fr h else .code e fr h
    | _ => .code e fr h
  | r => r

noncomputable def sRegion (P : Program) (E : Env) (ih : Task → Res) (ops : Array Oper) (draw : Bool) (fr : Fr) (h : Heap) : Res :=
  bif draw then sDraw P E ih ops.toList fr h
  else runOps P E ih ops.toList ops.toList fr h

/-- Where the deferred calls of a loop over a function lie: the frame's own block, or that of the loop around. -/
noncomputable def defsOf (fr : Fr) (h : Heap) : Option (Nat × List Nat × Heap) :=
  match fr.round with
  | .none => match fr.defers with
    | [] => some (h.n, h.n :: fr.marks, h.new .defs)
    | _ => .none
  | some _ => .none

noncomputable def endLoop (ih : Task → Res) (lid : Nat) (fr : Fr) (r : Res) : Res :=
  match r with
  | .ret _ h => match h.get lid with
    | .loop st pending fn n tm ps a b d =>
      match st with
      | .busy => .none fr.fn .none
      | _ => match pending with
        | .none => .code .normal fr (h.set lid (.loop .exhausted pending fn n tm ps a b d))
        | some c => ih (.code c fr (h.set lid (.loop .exhausted pending fn n tm ps a b d)))
    | _ => .none fr.fn .none
  | .panic v h => .code (.panic v) fr h
  | .none a b => .none a b
  | _ => .none fr.fn .none

noncomputable def sRange (P : Program) (E : Env) (ih : Task → Res) (f : Operand) (params : Array Tmp) (assign body : Code) (fr : Fr) (h : Heap) : Res :=
  match ev E.glob fr.tm f with
  | .none => .none fr.fn .none
  | some fv => match defsOf fr h with
    | .none => .none fr.fn .none
    | some (d, marks, h1) =>
      match callV P (h1.new (.loop .ready .none fr.fn fr.n fr.tm params.toList assign body d)) fv [.func (.yield h1.n) [] []] with
      | .call g args h2 => endLoop ih h1.n { fr with marks := marks } (bif E.shared g then ih (.call g args h2) else .none fr.fn .none)
      | _ => .none fr.fn .none

noncomputable def killMarks (l : List Nat) : Heap → Option Heap :=
  List.rec (motive := fun _ => Heap → Option Heap) (fun h => some h) (fun m _ ih h => match h.get m with
    | .defs => ih (h.set m .dead)
    | _ => .none) l

/-- How a body has come to its end: it may yet be that what is deferred turns it. -/
noncomputable def endWith (P : Program) (f : FuncId) (fn : Func) (fr : Fr) (p : Option V) (h : Heap) : Res :=
  match p with
  | .none => match results P fn fr h with
    | some v => .ret v h
    | .none => .none f .none
  | some v => .panic v h

/-- The deferred calls, the last one first. -/
noncomputable def runDefers (P : Program) (ih : Task → Res) (f : FuncId) (fn : Func) (fr : Fr) (l : List (FuncId × List V)) : Option V → Heap → Res :=
  List.rec (motive := fun _ => Option V → Heap → Res) (fun p h => endWith P f fn fr p h)
    (fun d _ k p h => match ih (.dcall d.1 d.2 p h) with
      | .dret _ h' => k .none h'
      | .none a b => .none a b
      | _ => .none f .none) l

noncomputable def endBody (P : Program) (ih : Task → Res) (f : FuncId) (fn : Func) (fr : Fr) (p : Option V) (h : Heap) : Res :=
  match killMarks fr.marks h with
  | .none => .none f .none
  | some h' => runDefers P ih f fn fr fr.defers p h'

noncomputable def endCall (P : Program) (ih : Task → Res) (f : FuncId) (fn : Func) (r : Res) : Res :=
  match r with
  | .code e fr h => match e with
    | .normal => endBody P ih f fn fr .none h
    | .ret => endBody P ih f fn fr .none h
    | .panic v => endBody P ih f fn fr (some v) h
    | _ => .none f .none
  | r => r

noncomputable def sCall (P : Program) (_E : Env) (ih : Task → Res) (f : FuncId) (args : List V) (h : Heap) : Res :=
  match P.funcs[f]? with
  | .none => .none f .none
  | some fn => match fn.body with
    | .none => match extern P fn args h with
      | some (v, h') => .ret v h'
      | .none => .none f .none
    | some body => bif Nat.ble (List.len args) fn.ntmps then endCall P ih f fn (ih (.code body ⟨f, fn.ntmps, args0 args 0 (full (levels fn.ntmps)), [], [], .none, .none, false⟩ h)) else .none f .none

/-- The end of a deferred call: nothing is deferred in it, it has no results. -/
noncomputable def endDeferred (f : FuncId) (r : Res) : Res :=
  match r with
  | .code e fr h => bif isNil fr.marks && isNil fr.defers then (match e with
      | .normal => .dret true h
      | .ret => .dret true h
      | _ => .none f .none) else .none f .none
  | .none a b => .none a b
  | _ => .none f .none

def isRecover (o : Oper) : Bool :=
  match o.guard with
  | .none => match o.op with
    | .call c => match c.callee with
      | .builtin .recover => c.args.isEmpty
      | _ => false
    | _ => false
  | some _ => false

def orNil (p : Option V) : V :=
  match p with
  | .none => .nili
  | some v => v

noncomputable def sDefer (P : Program) (E : Env) (ih : Task → Res) (f : FuncId) (args : List V) (p : Option V) (h : Heap) : Res :=
  match P.funcs[f]? with
  | .none => .none f .none
  | some fn => match fn.body with
    | some (.seq (.region _ ops false) rest) => match ops.toList with
      | [] => .none f .none
      | o :: l => bif isRecover o && isNil fn.results.toList && Nat.ble (List.len args) fn.ntmps then
          (match Fr.put ⟨f, fn.ntmps, args0 args 0 (full (levels fn.ntmps)), [], [], .none, .none, false⟩ o.dst (orNil p) with
            | some fr1 => endDeferred f (sSeq ih rest (runOps P E ih ops.toList l fr1 h))
            | .none => .none f .none)
        else .none f .none
    | _ => .none f .none

noncomputable def sBody (ih : Task → Res) (l : Nat) (body : Code) (r : Res) : Res :=
  match r with
  | .code e fr h => match e with
    | .normal => match h.get l with
      | .loop st pend fn n tm ps a b d => match st with
        | .ready => ih (.code body fr (h.set l (.loop .busy pend fn n tm ps a b d)))
        | _ => .none l .none
      | _ => .none l .none
    | _ => .none l .none
  | r => r

noncomputable def sYield (ih : Task → Res) (l : Nat) (args : List V) (h : Heap) : Res :=
  match h.get l with
  | .loop _ _ fn n tm ps assign body _ => match setParams ps n args tm with
    | .none => .none l .none
    | some tm' => endRound l (sBody ih l body (ih (.code assign ⟨fn, n, tm', [], [], some l, .none, false⟩ h)))
  | _ => .none l .none

noncomputable def sCode (P : Program) (E : Env) (ih : Task → Res) (c : Code) (fr : Fr) (h : Heap) : Res :=
  Code.rec (motive := fun _ => Program → Env → (Task → Res) → Fr → Heap → Res)
    (fun _ _ _ fr h => .code .normal fr h)
    (fun _ ops draw P E ih fr h => sRegion P E ih ops draw fr h)
    (fun a b _ _ _ _ ih fr h => sSeq ih b (ih (.code a fr h)))
    (fun c a b _ _ _ E ih fr h => sCond E ih c a b fr h)
    (fun id b _ _ _ ih fr h => sBlock id (ih (.code b fr h)))
    (fun b _ _ _ ih fr h => sSeq ih (.loop b) (ih (.code b fr h)))
    (fun f params assign body _ _ P E ih fr h => sRange P E ih f params assign body fr h)
    (fun id _ _ _ fr h => .code (.exit id) fr h)
    (fun b _ _ _ ih fr h => ih (.code b fr h))
    (fun _ _ _ _ fr h => .code .normal fr h)
    (fun _ _ _ _ fr _ => .none fr.fn .none)
    (fun _ _ _ fr h => .code .ret fr h)
    (fun _ _ _ _ fr _ => .none fr.fn .none) c P E ih fr h

noncomputable def step (P : Program) (E : Env) (ih : Task → Res) (t : Task) : Res :=
  Task.rec (motive := fun _ => Program → Env → (Task → Res) → Res) (fun c fr h P E ih => sCode P E ih c fr h) (fun f args h P E ih => sCall P E ih f args h) (fun l args h _ _ ih => sYield ih l args h) (fun f args p h P E ih => sDefer P E ih f args p h) t P E ih

noncomputable def run (P : Program) (E : Env) (n : Nat) : Task → Res := Nat.rec (fun _ => .none 0 .none) (fun _ ih => step P E ih) n

end Go.AM
