/-
  AN ABSTRACT MACHINE that runs a program over plain data, and a second one that tells what calls come to, are sound against the model (a part of it). No condition but what each theorem says.
-/
import Derived.Below
import Derived.Calls
import Derived.ChangeKeysEq
import Derived.Laws.Strings
import Derived.Laws.StructEq
namespace Go.AM
noncomputable section
open Go.RowKit
/-- A tree of numbered places. -/
inductive T (α:Type) where
 | e
 | n (l:T α) (v:α) (r:T α)
def T.pick {α:Type} (k:Nat) (a b:Nat→α):α:=Bool.rec (b (Nat.div k 2)) (a (Nat.div k 2)) (Nat.beq (Nat.mod k 2) 0)
def T.get {α:Type} (d:α) (t:T α):Nat→α :=
 T.rec (motive:=fun _=>Nat→α) (fun _=>d) (fun _ v _ gl gr i=>Nat.rec v (fun k _=>T.pick k gl gr) i) t
def T.one {α:Type} (d x:α) (f:Nat):Nat→T α :=
 Nat.rec (fun _=>T.e) (fun _ ih i=>Nat.rec (T.n T.e x T.e) (fun k _=>T.pick k (fun m=>T.n (ih m) d T.e) (fun m=>T.n T.e d (ih m))) i) f
def T.set {α:Type} (d x:α) (t:T α):Nat→T α :=
 T.rec (motive:=fun _=>α→Nat→T α) (fun x i=>T.one d x (Nat.succ i) i)
  (fun l v r sl sr x i=>Nat.rec (T.n l x r) (fun k _=>T.pick k (fun m=>T.n (sl x m) v r) (fun m=>T.n l v (sr x m))) i) t x
inductive V where
 | int (k:IntKind) (n:Int)
 | bool (b:Bool)
 | str (s:List UInt8)
 | nilp
 | ptr (r ver off:Nat)
 | gptr (sz:Nat) (es:List V) (off:Nat)
 | nils
 | sl (r ver o n:Nat) (cap:Option Nat)
 | gsl (sz:Nat) (es:List V) (cap:Option Nat)
 | fsl (ty sz pub:Nat) (es:List V) (cap:Option Nat)
 | nilm
 | map (r:Nat)
 | iter (r:Nat)
 | func (f:Fn) (first cap:List V)
 | nilf
 | nili
 | iface (t:TypeId) (v:V)
 | agg (vs:List V)
 | tup (vs:List V)
 | any
 | imod (k:IntKind) (m r:Nat)
 | osl (sz:Nat) (es:List V)
 | gmap (ks vs:List V)
def undef:V:=.tup []
def V.cells:V→List V
 | .agg vs=>vs
 | v=>[v]
def V.flat:V→Bool
 | .tup _=>false
 | .fsl _ _ _ _ _=>false
 | _=>true
inductive Obj where
 | row (ver ty sz pub:Nat) (cap:Option Nat) (es:List V)
 | rowS (ver ty sz pub:Nat) (l:List V) (x:V)
 | map (es:List (V×V))
 | siter (s:List UInt8) (pos:Nat)
 | miter (left:List (V×V)) (cur:Option (V×V))
 | loop (st:LoopState) (pending:Option Code) (fn:FuncId) (n:Nat) (tm:T V) (params:List Tmp) (assign body:Code) (defers:Nat)
 | defs
 | dead
structure Heap where
 t:T Obj
 n:Nat
def Heap.empty:Heap:=⟨.e,0⟩
def Heap.get (h:Heap) (r:Nat):Obj:=Heap.rec (motive:=fun _=>Nat→Obj) (fun t _ r=>t.get .dead r) h r
def Heap.set (h:Heap) (r:Nat) (o:Obj):Heap:=Heap.rec (motive:=fun _=>Nat→Obj→Heap) (fun t n r o=>⟨t.set .dead o r,n⟩) h r o
def Heap.new (h:Heap) (o:Obj):Heap:=Heap.rec (motive:=fun _=>Obj→Heap) (fun t n o=>Nat.rec (motive:=fun _=>T Obj→Obj→Heap) (fun t o=>⟨t.set .dead o 0,1⟩) (fun k _ t o=>⟨t.set .dead o (Nat.succ k),Nat.succ (Nat.succ k)⟩) n t o) h o
inductive Rs where
 | val (v:V) (h:Heap)
 | skip (h:Heap)
 | call (f:FuncId) (args:List V) (h:Heap)
 | yield (l:Nat) (args:List V) (h:Heap)
 | panic (v:V) (h:Heap)
 | defer (f:FuncId) (args:List V) (h:Heap)
 | recover (h:Heap)
 | stuck
def List.at {α:Type} (l:List α):Nat→Option α :=
 List.rec (motive:=fun _=>Nat→Option α) (fun _=>none) (fun x _ ih i=>Nat.rec (some x) (fun k _=>ih k) i) l
def List.len {α:Type} (l:List α):Nat:=List.rec (motive:=fun _=>Nat→Nat) (fun n=>n) (fun _ _ ih n=>ih (Nat.add n 1)) l 0
def qc0 {α β:Type} (f:α→Option β) (l:List α):Option (List β) :=
 List.rec (some []) (fun x _ ih=>match f x with
  | none=>none
  | some y=>match ih with
   | none=>none
   | some ys=>some (y::ys)) l
def List.dropN {α:Type} (l:List α):Nat→List α :=
 List.rec (motive:=fun _=>Nat→List α) (fun _=>[]) (fun x xs ih i=>Nat.rec (x::xs) (fun k _=>ih k) i) l
def List.takeN {α:Type} (l:List α):Nat→List α :=
 List.rec (motive:=fun _=>Nat→List α) (fun _=>[]) (fun x _ ih i=>Nat.rec [] (fun k _=>x::ih k) i) l
def List.app {α:Type} (a b:List α):List α:=List.rec b (fun x _ ih=>x::ih) a
def List.setN {α:Type} (y:α) (l:List α):Nat→List α :=
 List.rec (motive:=fun _=>Nat→List α) (fun _=>[]) (fun x xs ih i=>Nat.rec (y::xs) (fun k _=>x::ih k) i) l
def List.rep {α:Type} (x:α) (n:Nat):List α:=Nat.rec [] (fun _ ih=>x::ih) n
def ile:Int→Int→Bool
 | .ofNat a,.ofNat b=>Nat.ble a b
 | .negSucc _,.ofNat _=>true
 | .ofNat _,.negSucc _=>false
 | .negSucc a,.negSucc b=>Nat.ble b a
def ilt (a b:Int):Bool:=!(ile b a)
def ieq:Int→Int→Bool
 | .ofNat a,.ofNat b=>Nat.beq a b
 | .negSucc a,.negSucc b=>Nat.beq a b
 | _,_=>false
def Yk0 (k:IntKind) (n:Int):Int:=bif ile k.min n&&ile n k.max then n else k.wrap n
def zh0:IntKind→IntKind→Bool
 | .i8,.i8 | .i16,.i16 | .i32,.i32 | .i64,.i64 | .u8,.u8 | .u16,.u16 | .u32,.u32 | .u64,.u64=>true
 | _,_=>false
def zE0 (a b:UInt8):Bool:=Nat.beq a.toNat b.toNat
def zC0 (a:List UInt8):List UInt8→Bool :=
 List.rec (motive:=fun _=>List UInt8→Bool) (fun b=>match b with | []=>true | _=>false)
  (fun x _ ih b=>match b with | []=>false | y::ys=>bif zE0 x y then ih ys else false) a
def V.single:V→Bool
 | .agg _=>false
 | .tup _=>false
 | .fsl _ _ _ _ _=>false
 | _=>true
def allL (f:V→Bool) (l:List V):Bool:=List.rec true (fun v _ ih=>bif f v then ih else false) l
def ofValue (n:Nat):Value→Option V :=
 Nat.rec (motive:=fun _=>Value→Option V) (fun _=>none) (fun _ ih v=>match v with
  | .int k n=>some (.int k n)
  | .bool b=>some (.bool b)
  | .string s=>some (.str s.data.toList)
  | .pointer a=>match a with
   | none=>some .nilp
   | some _=>none
  | .slice a n c=>match a with
   | none=>bif Nat.beq n 0&&Nat.beq c 0 then some .nils else none
   | some _=>none
  | .map m=>match m with
   | none=>some .nilm
   | some _=>none
  | .nilFunc=>some .nilf
  | .nilIface=>some .nili
  | .agg cs=>match qc0 ih cs.toList with
   | some vs=>bif allL V.single vs then some (.agg vs) else none
   | none=>none
  | .iface t v=>match ih v with
   | some v=>some (.iface t v)
   | none=>none
  | _=>none) n
section
variable (P:Program)
def size (t:TypeId):Nat:=P.cellsOf t
def jH0 (t:TypeId):Option Bool :=
 match P.underlying t with
 | some (.struct _)=>some true
 | some (.array _ _)=>some true
 | some _=>some false
 | none=>none
def zero (t:TypeId):Option V :=
 match P.info? t with
 | some i=>match i.zero with
  | some v=>ofValue 3 v
  | none=>none
 | none=>none
def qo0 (t:TypeId):Option TypeId :=
 match P.underlying t with
 | some (.slice e)=>some e
 | _=>none
def zm0 (t:TypeId):Bool :=
 match P.underlying t with
 | some .string=>true
 | _=>false
def qX0 (t:TypeId):Bool :=
 match P.underlying t with
 | some (.slice _)=>true
 | _=>false
def YL0 (t:TypeId):Bool :=
 match P.underlying t with
 | some (.map _ _)=>true
 | _=>false
def zo0 (t:TypeId):Bool :=
 match P.underlying t with
 | some (.int _)=>false
 | some _=>true
 | none=>false
def QN0 (t:TypeId):Bool :=
 match P.underlying t with
 | some (.int _)=>true
 | _=>false
def GG0 (t:TypeId):Bool :=
 match P.underlying t with
 | some (.interface _)=>false
 | some _=>true
 | none=>false
def Xl0 (t:TypeId):Bool :=
 match P.underlying t with
 | some (.pointer _)=>true
 | _=>false
def isU8 (t:TypeId):Bool :=
 match P.underlying t with
 | some (.int .u8)=>true
 | _=>false
def Yr0 (t:TypeId):Option (Nat×TypeId) :=
 match P.underlying t with
 | some (.array n e)=>some (n,e)
 | _=>none
def ZQ0 (t:TypeId):Option (TypeId×TypeId) :=
 match P.underlying t with
 | some (.map k e)=>some (k,e)
 | _=>none
def Zz0 (t:TypeId) (f:Nat):Option (TypeId×Nat) :=
 match P.underlying t with
 | some (.struct fs)=>match fs[f]? with
  | some x=>some (x.type,x.offset)
  | none=>none
 | _=>none
def yf0 (t:TypeId) (cs:List V):Option V :=
 match jH0 P t with
 | none=>none
 | some true=>bif Nat.beq (List.len cs) (size P t) then some (.agg cs) else none
 | some false=>match cs with
  | [v]=>some v
  | _=>none
def qE0 (sz:Nat) (es:List V) (off k:Nat):Option (List V) :=
 bif Nat.beq sz 1 then (bif Nat.beq k 1 then (match List.at es off with
  | none=>none
  | some e=>some e.cells) else none)
 else match List.at es (Nat.div off sz) with
 | none=>none
 | some e=>bif Nat.ble (Nat.add (Nat.mod off sz) k) (List.len e.cells) then some (List.takeN (List.dropN e.cells (Nat.mod off sz)) k) else none
def yF0 (cs:List V) (j:Nat) (new:List V):List V:=List.app (List.takeN cs j) (List.app new (List.dropN cs (Nat.add j (List.len new))))
def yo0 (e:V) (j:Nat) (new:List V):Option V :=
 match e with
 | .agg cs=>bif Nat.ble (Nat.add j (List.len new)) (List.len cs) then some (.agg (yF0 cs j new)) else none
 | _=>match j with
  | 0=>match new with
   | [v]=>some v
   | _=>none
  | _+1=>none
def zx0 (t:TypeId):Option (List V)→Option V
 | some cs=>yf0 P t cs
 | none=>none
def Qc0 (es:List V):Option (List V×V):=List.rec none (fun e _ ih=>match ih with
 | some p=>some (e::p.1,p.2)
 | none=>some ([],e)) es
def load (h:Heap) (t:TypeId) (a:V):Option V :=
 match a with
 | .ptr r ver off =>
  match h.get r with
  | .row ver' _ sz _ _ es=>bif Nat.beq ver ver' then zx0 P t (qE0 sz es off (size P t)) else none
  | .rowS ver' _ sz _ l x=>bif Nat.beq ver ver' then zx0 P t (qE0 sz (l++[x]) off (size P t)) else none
  | _=>none
 | .gptr sz es off=>zx0 P t (qE0 sz es off (size P t))
 | _=>none
def store (h:Heap) (t:TypeId) (a v:V):Option Heap :=
 match a with
 | .ptr r ver off =>
  match h.get r with
  | .row ver' ty sz pub cap es =>
   bif Nat.beq ver ver'&&v.flat&&Nat.beq (List.len v.cells) (size P t)&&Nat.ble pub (Nat.div off sz)&&Nat.ble 1 (size P t) then
    match List.at es (Nat.div off sz) with
    | some e=>match yo0 e (Nat.mod off sz) v.cells with
     | some e'=>some (h.set r (.row ver ty sz pub cap (List.setN e' es (Nat.div off sz))))
     | none=>none
    | none=>none
   else none
  | .rowS ver' ty sz pub l x =>
   bif Nat.beq ver ver'&&v.flat&&Nat.beq (List.len v.cells) (size P t)&&Nat.ble pub (Nat.div off sz)&&Nat.ble 1 (size P t) then
    match List.at (l++[x]) (Nat.div off sz) with
    | some e=>match yo0 e (Nat.mod off sz) v.cells with
     | some e'=>match Qc0 (List.setN e' (l++[x]) (Nat.div off sz)) with
      | some p=>some (h.set r (.rowS ver ty sz pub p.1 p.2))
      | none=>none
     | none=>none
    | none=>none
   else none
  | _=>none
 | _=>none
def newRow (h:Heap) (ty sz pub:Nat) (cap:Option Nat) (es:List V):Heap:=h.new (.row 0 ty sz pub cap es)
def eqS (x y:V):Option Bool :=
 match x with
 | .int k a=>match y with
  | .int k' b=>bif zh0 k k' then some (ieq a b) else none
  | _=>none
 | .bool a=>match y with
  | .bool b=>some (Bool.rec (!b) b a)
  | _=>none
 | .str a=>match y with
  | .str b=>some (zC0 a b)
  | _=>none
 | _=>none
def zf0 (t:TypeId) (x:V):Bool :=
 match P.underlying t with
 | some (.int _)=>match x with | .int _ _=>true | _=>false
 | some .string=>match x with | .str _=>true | _=>false
 | some .bool=>match x with | .bool _=>true | _=>false
 | _=>false
def KL0 (h:Heap) (x y:V):Option Bool :=
 match x with
 | .nilp=>match y with
  | .nilp=>some true
  | .ptr _ _ _=>some false
  | .gptr _ _ _=>some false
  | _=>none
 | .ptr r v o=>match y with
  | .nilp=>some false
  | .ptr r' v' o'=>match h.get r with
   | .row ver _ _ _ _ _=>bif Nat.beq r r'&&Nat.beq v v'&&Nat.beq o o'&&Nat.beq v ver then some true else none
   | _=>none
  | _=>none
 | .gptr _ _ _=>match y with
  | .nilp=>some false
  | _=>none
 | _=>none
def yN1:V→Option Bool
 | .nils=>some true
 | .sl _ _ _ _ _=>some false
 | .gsl _ _ _=>some false
 | _=>none
def yM1:V→Option Bool
 | .nilm=>some true
 | .map _=>some false
 | .gmap _ _=>some false
 | _=>none
def yK1:V→Option Bool
 | .nilf=>some true
 | .func _ _ _=>some false
 | _=>none
def yL1:V→Option Bool
 | .nili=>some true
 | .iface _ _=>some false
 | _=>none
def Zx0 (f:V→Option Bool) (x y:V):Option Bool :=
 match f x with
 | none=>none
 | some a=>match f y with
  | none=>none
  | some b=>bif a then some b else bif b then some false else none
def eqFields (fs:List Field) (xs ys:List V):Option Bool :=
 List.rec (some true) (fun f _ ih=>match List.at xs f.offset with
  | none=>none
  | some x=>match List.at ys f.offset with
   | none=>none
   | some y => bif zf0 P f.type x && !(f.name == "_") then (match eqS x y with
    | none=>none
    | some true=>ih
    | some false=>match ih with
     | none=>none
     | some _=>some false) else none) fs
def eqT (h:Heap) (t:TypeId) (c:Bool) (x y:V):Option Bool :=
 match P.underlying t with
 | none=>none
 | some d=>match d with
  | .bool=>match x with
   | .bool a=>match y with
    | .bool b=>some (Bool.rec (!b) b a)
    | _=>none
   | _=>none
  | .pointer e=>match P.info? e with
   | some _=>KL0 h x y
   | none=>none
  | .slice _=>Zx0 yN1 x y
  | .map _ _=>Zx0 yM1 x y
  | .func _ _ _=>Zx0 yK1 x y
  | .interface _=>match x,y with
   | .nili,.nili=>bif c then some true else none
   | x,y=>Zx0 yL1 x y
  | .struct fs=>bif P.stoodInHeld t||P.eqGuardType P.depth t then none else match x with
   | .agg xs=>match y with
    | .agg ys=>eqFields P fs.toList xs ys
    | _=>none
   | _=>none
  | _=>none
def Zn0 (a:List UInt8):List UInt8→Bool :=
 List.rec (motive:=fun _=>List UInt8→Bool) (fun b=>match b with | []=>false | _=>true)
  (fun x _ ih b=>match b with | []=>false | y::ys=>bif Nat.blt x.toNat y.toNat then true else bif zE0 x y then ih ys else false) a
def KW0 (f:Nat→Option V) (n:Nat):Option V:=Nat.rec (f 0) (fun k _=>f (Nat.succ k)) n
def jU0 (k:IntKind) (n:Int):Option V :=
 Int.rec (motive:=fun _=>IntKind→Option V) (fun n k=>KW0 (fun n=>some (.int k (.ofNat n))) n) (fun n k=>KW0 (fun n=>some (.int k (.negSucc n))) n) n k
def zU0 (k:IntKind) (n:Int):Option V:=jU0 k (Yk0 k n)
def quoI (k:IntKind) (a b:Int):Option V:=Bool.rec (zU0 k (a.tdiv b)) none (ieq b 0)
def remI (k:IntKind) (a b:Int):Option V:=Bool.rec (jU0 k (a.tmod b)) none (ieq b 0)
def bitI (k:IntKind) (x:BitVec k.bits):Option V:=jU0 k (k.wrap x.toNat)
def shlI (k:IntKind) (a b:Int):Option V:=Bool.rec (zU0 k (a*2^(min b.toNat k.bits))) none (ilt b 0)
def shrI (k:IntKind) (a b:Int):Option V:=Bool.rec (jU0 k (a.fdiv (2^(min b.toNat k.bits)))) none (ilt b 0)
def qF0 (op:BinOp) (k:IntKind) (a b:Int):Option V :=
 BinOp.rec (motive:=fun _=>IntKind→Int→Int→Option V)
  (fun k a b=>zU0 k (a+b)) (fun k a b=>zU0 k (a-b)) (fun k a b=>zU0 k (a*b)) quoI remI
  (fun k a b=>bitI k (BitVec.ofInt k.bits a &&& BitVec.ofInt k.bits b)) (fun k a b=>bitI k (BitVec.ofInt k.bits a ||| BitVec.ofInt k.bits b))
  (fun k a b=>bitI k (BitVec.ofInt k.bits a ^^^ BitVec.ofInt k.bits b)) shlI shrI
  (fun k a b=>bitI k (BitVec.ofInt k.bits a &&& ~~~(BitVec.ofInt k.bits b)))
  (fun _ a b=>some (.bool (ieq a b))) (fun _ a b=>some (.bool (!(ieq a b)))) (fun _ a b=>some (.bool (ilt a b)))
  (fun _ a b=>some (.bool (ile a b))) (fun _ a b=>some (.bool (ilt b a))) (fun _ a b=>some (.bool (ile b a))) op k a b
def jm0:BinOp→Bool
 | .shl=>true
 | .shr=>true
 | _=>false
def qL0:Nat:=1099511627776
def jy0 (op:BinOp) (a b:List UInt8):Option V :=
 match op with
 | .add=>bif Nat.ble (Nat.add (List.len a) (List.len b)) qL0 then some (.str (List.app a b)) else none
 | .eql=>some (.bool (zC0 a b))
 | .neq=>some (.bool (!(zC0 a b)))
 | .lss=>some (.bool (Zn0 a b))
 | .leq=>some (.bool (!(Zn0 b a)))
 | .gtr=>some (.bool (Zn0 b a))
 | .geq=>some (.bool (!(Zn0 a b)))
 | _=>none
def eqOp (h:Heap) (t:TypeId) (c:Bool) (op:BinOp) (x y:V):Option V :=
 match op with
 | .eql=>match eqT P h t c x y with
  | some b=>some (.bool b)
  | none=>none
 | .neq=>match eqT P h t c x y with
  | some b=>some (.bool (!b))
  | none=>none
 | _=>none
def GV0 (op:BinOp) (k:IntKind) (m r:Nat) (y:V):Option V :=
 match op with
 | .rem=>match y with
  | .int k' (.ofNat d)=>bif zh0 k k'&&Nat.blt 0 d&&Nat.beq (Nat.mod m d) 0 then jU0 k (.ofNat (Nat.mod r d)) else none
  | _=>none
 | _=>none
def binOp (h:Heap) (t:TypeId) (c:Bool) (op:BinOp) (x y:V):Option V :=
 match x with
 | .imod k m r=>GV0 op k m r y
 | .int k a=>match y with
  | .int k' b=>bif jm0 op||zh0 k k' then qF0 op k a b else none
  | _=>none
 | .str a=>match y with
  | .str b=>jy0 op a b
  | _=>none
 | x=>eqOp P h t c op x y
def qP0:Operand→Bool
 | .const _=>true
 | _=>false
def unOp (op:UnOp) (x:V):Option V :=
 match x with
 | .int k n=>match op with
  | .neg=>zU0 k (0-n)
  | .xor=>qF0 .xor k (if k.signed then -1 else k.max) n
  | _=>none
 | .bool b=>match op with
  | .not=>some (.bool (!b))
  | _=>none
 | _=>none
def lenOf (t:TypeId) (h:Heap) (x:V):Option Nat :=
 match x with
 | .str s=>bif zm0 P t then some (List.len s) else none
 | .nils=>bif qX0 P t then some 0 else none
 | .sl _ _ _ n _=>bif qX0 P t then some n else none
 | .gsl _ es _=>bif qX0 P t then some (List.len es) else none
 | .osl _ es=>bif qX0 P t then some (List.len es) else none
 | .nilm=>bif YL0 P t then some 0 else none
 | .map r=>match h.get r with
  | .map es=>bif YL0 P t then some (List.len es) else none
  | _=>none
 | .gmap ks _=>bif YL0 P t then some (List.len ks) else none
 | _=>none
def elems (h:Heap) (sz:Nat) (x:V):Option (List V) :=
 match x with
 | .nils=>some []
 | .gsl sz' es _=>bif Nat.beq sz sz' then some es else none
 | .osl sz' es=>bif Nat.beq sz sz' then some es else none
 | .sl r ver o n _=>match h.get r with
  | .row ver' _ sz' _ _ es=>bif Nat.beq ver ver'&&Nat.beq sz sz'&&Nat.ble (Nat.add o n) (List.len es) then some (List.takeN (List.dropN es o) n) else none
  | _=>none
 | _=>none
def QA0 (b:UInt8):V:=.int .u8 b.toNat
def Yv0:V→Option UInt8
 | .int .u8 n=>some (UInt8.ofNat n.toNat)
 | _=>none
def Ks0:V→Option UInt8
 | .int .u8 (.ofNat n)=>bif Nat.blt n 256 then some (UInt8.ofNat n) else none
 | _=>none
def mapB (s:List UInt8):List V:=List.rec [] (fun x _ ih=>QA0 x::ih) s
def jJ0 (h:Heap) (sz:Nat) (x:V):Option (List V) :=
 match x with
 | .str s=>bif Nat.beq sz 1 then some (mapB s) else none
 | v=>elems h sz v
def qb0 {α:Type}:List α→Bool
 | []=>true
 | _=>false
def YI0 (t:TypeId):Bool :=
 match P.info? t with
 | some _=>true
 | none=>false
def yG0 (e:TypeId):Bool :=
 match P.info? e with
 | some i=>match i.zero with
  | some z=>Nat.beq z.cells.size i.size
  | none=>false
 | none=>false
def yl0 (h:Heap) (e sz n:Nat) (es:List V):Rs :=
 bif yG0 P e&&Nat.ble n qL0&&Nat.ble (Nat.mul n (P.bytesOf e)) qL0 then .val (.sl h.n 0 0 n none) (newRow h e sz 0 none es) else .stuck
def Qx0 (h:Heap) (e sz r ver o n:Nat) (c:Option Nat) (new:List V) (m:Nat):Rs :=
 match h.get r with
 | .row ver' ty sz' pub cap es =>
  bif Nat.beq ver ver'&&Nat.beq sz sz'&&Nat.ble (Nat.add o n) (List.len es)&&yG0 P e&&Nat.ble (Nat.add n m) qL0&&Nat.ble (Nat.mul (Nat.add n m) (P.bytesOf e)) qL0 then
   match (match c with | some c=>some c | none=>match cap with | some k=>some (Nat.sub k o) | none=>none) with
   | some c' =>
    bif Nat.ble (Nat.add n m) c' then
     (bif Nat.beq (Nat.add o n) (List.len es) then .val (.sl r ver o (Nat.add n m) c) (h.set r (.row ver ty sz pub cap (List.app es new)))
     else .stuck)
    else yl0 P h e sz (Nat.add n m) (List.app (List.takeN (List.dropN es o) n) new)
   | none =>
    bif Nat.beq o 0&&Nat.ble pub n&&Nat.beq ty e then .val (.sl r (Nat.succ ver) 0 (Nat.add n m) none) (h.set r (.row (Nat.succ ver) ty sz pub none (List.app (List.takeN es n) new)))
    else .stuck
  else .stuck
 | _=>.stuck
def append (t:TypeId) (h:Heap) (s x:V):Rs :=
 match qo0 P t with
 | none=>.stuck
 | some e =>
  match jJ0 h (size P e) x with
  | none=>.stuck
  | some new =>
   bif Nat.beq (size P e) 0 then .stuck else
   bif qb0 new then (match s with
    | .nils=>.val s h
    | .sl _ _ _ _ _=>.val s h
    | .gsl _ _ _=>.val s h
    | _=>.stuck)
   else match s with
   | .nils=>yl0 P h e (size P e) (List.len new) new
   | .gsl sz' es c=>match c with
    | some c=>bif Nat.beq (size P e) sz'&&Nat.blt c (Nat.add (List.len es) (List.len new)) then yl0 P h e sz' (Nat.add (List.len es) (List.len new)) (List.app es new) else .stuck
    | none=>.stuck
   | .sl r ver o n c=>Qx0 P h e (size P e) r ver o n c new (List.len new)
   | _=>.stuck
def jI0 (t:TypeId) (h:Heap) (s x:V):Rs :=
 match s with
 | .nils=>match qo0 P t with
  | none=>.stuck
  | some e=>match zero P e with
   | none=>.stuck
   | some z=>match x with
    | .int _ (.ofNat l) =>
     bif Nat.blt 0 l&&Nat.ble (Nat.mul l (Nat.add (P.bytesOf e) 1)) 16777216&&!(Nat.beq (size P e) 0)&&Nat.beq (List.len z.cells) (size P e)&&z.flat then
      .val (.sl h.n 0 0 l none) (newRow h e (size P e) 0 none (List.rep z l)) else .stuck
    | _=>.stuck
 | _=>.stuck
def qU0 (d:Nat):Option V→Option Nat
 | none=>some d
 | some (.int _ (.ofNat n))=>some n
 | _=>none
def jz0 (c:Option Nat) (k:Nat):Option Nat :=
 match c with
 | some c=>some (Nat.sub c k)
 | none=>none
def qp1 (r ver o n:Nat) (c:Option Nat) (l e:Nat) (m:Option Nat):Option V :=
 match m with
 | none=>bif Nat.ble l e&&Nat.ble e n then some (.sl r ver (Nat.add o l) (Nat.sub e l) (jz0 c l)) else none
 | some m=>bif Nat.ble l e&&Nat.ble e m&&Nat.ble m n then some (.sl r ver (Nat.add o l) (Nat.sub e l) (some (Nat.sub m l))) else none
def XT0 (sz:Nat) (es:List V) (c:Option Nat) (l e:Nat) (m:Option Nat):Option V :=
 match m with
 | none=>bif Nat.ble l e&&Nat.ble e (List.len es) then some (.gsl sz (List.dropN (List.takeN es e) l) (jz0 c l)) else none
 | some m=>bif Nat.ble l e&&Nat.ble e m&&Nat.ble m (List.len es) then some (.gsl sz (List.dropN (List.takeN es e) l) (some (Nat.sub m l))) else none
def rowSz (h:Heap) (r:Nat):Nat :=
 match h.get r with
 | .row _ _ sz _ _ _=>sz
 | .rowS _ _ sz _ _ _=>sz
 | _=>0
def slice (h:Heap) (t:TypeId) (x:V) (lo hi mx:Option V):Option V :=
 match qU0 0 lo with
 | none=>none
 | some l =>
  match (match mx with
   | none=>some none
   | some (.int _ (.ofNat m))=>(match hi with
    | some _=>some (some m)
    | none=>none)
   | _=>none) with
  | none=>none
  | some m =>
   match x with
   | .str s=>match qU0 (List.len s) hi,m with
    | some e,none=>bif zm0 P t&&Nat.ble l e&&Nat.ble e (List.len s) then some (.str (List.dropN (List.takeN s e) l)) else none
    | _,_=>none
   | .nils=>match qU0 0 hi,qo0 P t,m with
    | some 0,some el,none=>bif Nat.beq l 0&&Nat.ble 1 (size P el) then some .nils else none
    | some 0,some el,some 0=>bif Nat.beq l 0&&Nat.ble 1 (size P el) then some .nils else none
    | _,_,_=>none
   | .sl r ver o n c=>match qU0 n hi,qo0 P t with
    | some e,some el=>bif Nat.ble 1 (size P el)&&Nat.beq (rowSz h r) (size P el) then qp1 r ver o n c l e m else none
    | _,_=>none
   | .gsl sz es c=>match qU0 (List.len es) hi,qo0 P t with
    | some e,some el=>bif Nat.beq (size P el) sz then XT0 sz es c l e m else none
    | _,_=>none
   | .osl sz es=>match qU0 (List.len es) hi,qo0 P t,m with
    | some e,some el,none=>bif Nat.beq (size P el) sz&&Nat.ble 1 sz&&Nat.ble l e&&Nat.ble e (List.len es) then some (.osl sz (List.dropN (List.takeN es e) l)) else none
    | _,_,_=>none
   | _=>none
def Ym0 (a:V) (k:Nat):Option V :=
 match a with
 | .ptr r ver off=>some (.ptr r ver (Nat.add off k))
 | .gptr sz es off=>some (.gptr sz es (Nat.add off k))
 | _=>none
def natI:V→Option Nat
 | .int _ (.ofNat n)=>some n
 | _=>none
def indexAddr (h:Heap) (t:TypeId) (x i:V):Option V :=
 match natI i with
 | none=>none
 | some i =>
  match x with
  | .sl r ver o n _=>match qo0 P t with
   | some e=>bif Nat.blt i n&&Nat.ble 1 (size P e)&&Nat.beq (rowSz h r) (size P e) then some (.ptr r ver (Nat.mul (Nat.add o i) (size P e))) else none
   | none=>none
  | .gsl sz es _=>match qo0 P t with
   | some e=>bif Nat.blt i (List.len es)&&Nat.beq sz (size P e) then some (.gptr sz es (Nat.mul i sz)) else none
   | none=>none
  | .osl sz es=>match qo0 P t with
   | some e=>bif Nat.blt i (List.len es)&&Nat.beq sz (size P e) then some (.gptr sz es (Nat.mul i sz)) else none
   | none=>none
  | a=>match Yr0 P t with
   | some (len,e)=>bif Nat.blt i len&&Nat.ble 1 (size P e) then Ym0 a (Nat.mul i (size P e)) else none
   | none=>none
def index (t:TypeId) (x i:V):Option V :=
 match natI i with
 | none=>none
 | some i =>
  match x with
  | .str s=>match List.at s i with
   | some b=>bif zm0 P t then some (QA0 b) else none
   | none=>none
  | .agg cs=>match Yr0 P t with
   | some (len,e)=>bif Nat.blt i len then yf0 P e (List.takeN (List.dropN cs (Nat.mul i (size P e))) (size P e)) else none
   | none=>none
  | _=>none
def Yd0 (t:TypeId) (i:Nat):Option (Nat×Nat) :=
 match P.underlying t with
 | some (.struct fs)=>match fs[i]? with
  | some f=>some (f.offset,size P f.type)
  | none=>none
 | some (.array _ e)=>some (Nat.mul i (size P e),size P e)
 | _=>none
def KR0 (t:TypeId) (ps:List (Nat×V)):List V→Option (List V) :=
 List.rec (motive:=fun _=>List V→Option (List V)) (fun cs=>some cs)
  (fun p _ ih cs=>match Yd0 P t p.1 with
   | some (off,sz)=>bif p.2.flat&&Nat.beq (List.len p.2.cells) sz&&Nat.ble (Nat.add off sz) (List.len cs) then ih (yF0 cs off p.2.cells) else none
   | none=>none) ps
def allF (f:Field→Bool) (l:List Field):Bool:=List.rec true (fun v _ ih=>bif f v then ih else false) l
def jI1 (t:TypeId):Bool :=
 match P.underlying t with
 | some (.struct fs)=>allF (fun f=>YI0 P f.type) fs.toList
 | some (.array _ e)=>YI0 P e
 | _=>false
def JF0 (t:TypeId) (ps:List (Nat×V)):Option V :=
 match zero P t with
 | some (.agg z)=>bif jI1 P t then (match KR0 P t ps z with
  | some cs=>some (.agg cs)
  | none=>none) else none
 | _=>none
def ZA0 (sz:Nat) (ps:List (Nat×V)):List V→Option (List V) :=
 List.rec (motive:=fun _=>List V→Option (List V)) (fun es=>some es)
  (fun p _ ih es=>bif p.2.flat&&Nat.beq (List.len p.2.cells) sz&&Nat.blt p.1 (List.len es) then ih (List.setN p.2 es p.1) else none) ps
def GP0 (h:Heap) (r v o:Nat):Bool :=
 match h.get r with
 | .row ver _ sz _ _ es=>Nat.beq v ver&&Nat.blt o (Nat.mul (List.len es) sz)
 | _=>false
def KQ0 (ty:TypeId) (r:Nat) (u:TypeId):Bool :=
 match P.underlying ty with
 | some (.struct fs)=>!(P.stoodInHeld ty)&&(List.rec false (fun f _ ih=>bif Nat.beq f.offset r&&Nat.ble 1 (size P f.type)&&sameLayout P P.depth f.type u then true else ih) fs.toList)
 | _=>false
def GQ0 (h:Heap) (r v o:Nat) (u:TypeId):Bool :=
 match h.get r with
 | .row ver ty sz _ _ es=>Nat.beq v ver&&Nat.beq (size P ty) sz&&((Nat.beq (Nat.mod o sz) 0&&sameLayout P P.depth ty u)||KQ0 P ty (Nat.mod o sz) u)&&Nat.blt (Nat.div o sz) (List.len es)&&Nat.ble 2 P.depth&&YI0 P u
 | _=>false
def convert (src dst:TypeId) (h:Heap) (x:V):Option V :=
 match P.underlying src with
 | none=>none
 | some s=>match P.underlying dst with
  | none=>none
  | some d=>match x with
   | .int _ n=>match d with
    | .int k=>some (.int k (Yk0 k n))
    | .string=>match s with
     | .int _=>some (.str (Utf8.encode n).data.toList)
     | _=>none
    | _=>none
   | .imod _ m r=>match d with
    | .int k=>bif zh0 k .i8 then none else some (.imod k m r)
    | _=>none
   | .str b=>match s,d with
    | .string,.string=>some (.str b)
    | _,_=>none
   | .ptr r v o=>match s,d with
    | .unsafePointer,.pointer u=>bif GQ0 P h r v o u then some (.ptr r v o) else none
    | .pointer t,.unsafePointer=>bif GP0 h r v o&&Nat.ble 1 (size P t) then some (.ptr r v o) else none
    | _,_=>none
   | x=>match s,d with
    | .slice e,.string=>match isU8 P e,elems h 1 x with
     | true,some es=>match qc0 Yv0 es with
      | some bs=>some (.str bs)
      | none=>none
     | _,_=>none
    | _,_=>none
def findKey (k:V) (l:List (V×V)):Option (Option V) :=
 List.rec (some none) (fun p _ ih=>match eqS k p.1 with
  | some true=>some (some p.2)
  | some false=>ih
  | none=>none) l
def XI0 (k v:V) (l:List (V×V)):Option (List (V×V)) :=
 List.rec (some [(k,v)]) (fun p l ih=>match eqS k p.1 with
  | some true=>some ((k,v)::l)
  | some false=>match ih with
   | some l'=>some (p::l')
   | none=>none
  | none=>none) l
def typeAssert (x:V) (asserted:TypeId) (commaOk:Bool):Option V :=
 match P.underlying asserted with
 | none=>none
 | some (.interface _)=>none
 | some _=>match x with
  | .nili=>bif commaOk then (match zero P asserted with
   | some z=>some (.tup [z,.bool false])
   | none=>none) else none
  | .iface t v=>bif Nat.beq t asserted then (bif commaOk then some (.tup [v,.bool true]) else some v)
   else bif commaOk then (match zero P asserted with
    | some z=>some (.tup [z,.bool false])
    | none=>none) else none
  | _=>none
def max2 (x y:V):Option V :=
 match x,y with
 | .int k a,.int _ b=>some (.int k (bif ilt a b then b else a))
 | _,_=>none
def min2 (x y:V):Option V :=
 match x,y with
 | .int k a,.int _ b=>some (.int k (bif ilt b a then b else a))
 | _,_=>none
def JU0 (f:V→V→Option V) (l:List V):V→Option V :=
 List.rec (motive:=fun _=>V→Option V) (fun a=>some a) (fun x _ ih a=>match f a x with
  | some b=>ih b
  | none=>none) l
def qj0 (h:Heap) (r:Option V):Rs:=Option.rec (motive:=fun _=>Heap→Rs) (fun _=>.stuck) (fun v h=>.val v h) r h
def copy (t:TypeId) (h:Heap) (d x:V):Rs :=
 match qo0 P t with
 | none=>.stuck
 | some e=>bif Nat.beq (size P e) 0 then .stuck else match jJ0 h (size P e) x with
  | none=>.stuck
  | some new=>match d with
   | .nils=>.val (.int .i64 0) h
   | .sl r ver o dn _=>match h.get r with
    | .row ver' ty sz pub cap es =>
     bif Nat.beq ver ver'&&Nat.ble pub o&&Nat.beq sz (size P e)&&Nat.ble (Nat.add o dn) (List.len es) then
      .val (.int .i64 (Int.ofNat (Nat.min dn (List.len new)))) (h.set r (.row ver ty sz pub cap (List.app (List.takeN es o) (List.app (List.takeN new dn) (List.dropN es (Nat.add o (Nat.min dn (List.len new))))))))
     else .stuck
    | _=>.stuck
   | _=>.stuck
def bCap (t:TypeId) (h:Heap) (x:V):Rs :=
 bif !(qX0 P t) then .stuck else match x with
 | .nils=>.val (.int .i64 0) h
 | .sl r ver o _ c=>match c with
  | some c=>.val (.int .i64 (Int.ofNat c)) h
  | none=>match h.get r with
   | .row ver' _ _ _ cap _=>match cap with
    | some k=>bif Nat.beq ver ver' then .val (.int .i64 (Int.ofNat (Nat.sub k o))) h else .stuck
    | none=>.stuck
   | _=>.stuck
 | _=>.stuck
def Km0 (t:TypeId) (h:Heap) (x:V):Rs :=
 bif !(qX0 P t) then .stuck else match x with
 | .nils=>.val (.tup []) h
 | .gsl _ es _=>bif qb0 es then .val (.tup []) h else .stuck
 | .sl r ver o n _=>bif Nat.beq n 0 then .val (.tup []) h else match h.get r with
  | .row ver' ty sz pub cap es=>match qo0 P t with
   | some e=>match zero P e with
    | some z=>bif Nat.beq ver ver'&&Nat.ble pub o&&Nat.beq sz (size P e)&&Nat.beq (List.len z.cells) sz&&z.flat&&Nat.ble (Nat.add o n) (List.len es) then
     .val (.tup []) (h.set r (.row ver ty sz pub cap (List.app (List.takeN es o) (List.app (List.rep z n) (List.dropN es (Nat.add o n)))))) else .stuck
    | none=>.stuck
   | none=>.stuck
  | _=>.stuck
 | _=>.stuck
def Kn0 (h:Heap) (t:TypeId) (p n:V):Rs :=
 match n with
 | .int .i64 (.ofNat n)=>match p with
  | .nilp=>bif Nat.beq n 0 then .val (.str []) h else .stuck
  | .ptr r ver off=>match h.get r with
   | .row ver' ty sz pub cap es =>
    match P.underlying t with
    | some (.pointer u) =>
     bif Nat.beq ver ver'&&Nat.beq off 0&&Nat.beq sz 1&&Nat.beq (size P ty) 1&&Nat.blt 0 n&&Nat.ble n (List.len es)&&Nat.ble n qL0&&Nat.beq ty u then
      match qc0 Ks0 (List.takeN es n) with
      | some s=>.val (.str s) (h.set r (.row ver ty sz (Nat.max pub n) cap es))
      | none=>.stuck
     else .stuck
    | _=>.stuck
   | _=>.stuck
  | _=>.stuck
 | _=>.stuck
def GE0:Option Nat→Bool
 | none=>true
 | some _=>false
def Ys0 (h:Heap) (x:V):Rs :=
 match x with
 | .nils=>.val .nilp h
 | .sl r ver o n c=>match h.get r with
  | .row ver' _ sz _ _ _=>bif Nat.beq ver ver'&&Nat.blt 0 n&&GE0 c then .val (.ptr r ver (Nat.mul o sz)) h else .stuck
  | _=>.stuck
 | _=>.stuck
def builtin (b:Builtin) (argTypes:List TypeId) (h:Heap) (args:List V):Rs :=
 match argTypes with
 | []=>.stuck
 | t::ts=>match args with
  | []=>.stuck
  | x::rest=>match b with
   | .len=>match rest with
    | []=>(match lenOf P t h x with
     | some n=>.val (.int .i64 (Int.ofNat n)) h
     | none=>.stuck)
    | _=>.stuck
   | .append=>match rest with
    | [y]=>(match ts with
     | [u]=>bif zo0 P u then append P t h x y else bif QN0 P u then jI0 P t h x y else .stuck
     | _=>.stuck)
    | _=>.stuck
   | .cap=>match rest with
    | []=>bCap P t h x
    | _=>.stuck
   | .copy=>match rest with
    | [y]=>copy P t h x y
    | _=>.stuck
   | .max=>qj0 h (JU0 max2 rest x)
   | .min=>qj0 h (JU0 min2 rest x)
   | .clear=>match rest with
    | []=>Km0 P t h x
    | _=>.stuck
   | .unsafeSliceData=>match rest with
    | []=>Ys0 h x
    | _=>.stuck
   | .unsafeString=>match rest with
    | [y]=>(match ts with
     | [_]=>Kn0 P h t x y
     | _=>.stuck)
    | _=>.stuck
   | _=>.stuck
def qz0:V:=.fsl 0 0 0 [] none
def yU0 (v:V):Option V :=
 match v with
 | .fsl _ _ _ _ _=>none
 | v=>some v
def ev (G:Nat→Option V) (tm:T V) (x:Operand):Option V :=
 Operand.rec (motive:=fun _=>(Nat→Option V)→T V→Option V) (fun t _ tm=>yU0 (tm.get undef t)) (fun v _ _=>ofValue 3 v) (fun g G _=>G g)
  (fun f _ _=>some (.func (.func f) [] [])) x G tm
def jL0 (h:Heap) (f:V) (args:List V):Rs :=
 match f with
 | .func fn first cap=>match fn with
  | .func g=>.call g (List.app (List.app first args) cap) h
  | .via t path g byPtr=>bif path.isEmpty&&byPtr&&Xl0 P t then (match first with
   | [.ptr _ _ _]=>.call g (List.app first args) h
   | _=>.stuck) else .stuck
  | .yield l=>.yield l (List.app first args) h
  | _=>.stuck
 | _=>.stuck
section ops
variable (G:Nat→Option V) (tm:T V) (h:Heap)
def o1 (x:Operand) (f:V→Option V):Rs :=
 Option.rec (motive:=fun _=>(V→Option V)→Heap→Rs) (fun _ _=>.stuck) (fun v f h=>qj0 h (f v)) (ev G tm x) f h
def o2 (x y:Operand) (f:V→V→Option V):Rs :=
 Option.rec (motive:=fun _=>Operand→(V→V→Option V)→(Nat→Option V)→T V→Heap→Rs) (fun _ _ _ _ _=>.stuck)
  (fun v y f G tm h=>Option.rec (motive:=fun _=>V→(V→V→Option V)→Heap→Rs) (fun _ _ _=>.stuck) (fun w v f h=>qj0 h (f v w)) (ev G tm y) v f h) (ev G tm x) y f G tm h
def yX0 (x:Operand):Rs:=qj0 h (ev G tm x)
def yY0 (c a b:Operand):Rs :=
 match ev G tm c with
 | some (.bool t)=>qj0 h (Bool.rec (ev G tm b) (ev G tm a) t)
 | _=>.stuck
def Qz0 (e:TypeId) (z:V):Rs :=
 bif z.flat&&!(Nat.beq (List.len z.cells) 0) then .val (.ptr h.n 0 0) (newRow h e (List.len z.cells) 0 (some 1) [z]) else .stuck
def ZX0 (e:TypeId):Rs :=
 match zero P e with
 | some z=>Qz0 h e z
 | none=>.stuck
def oBox (e:TypeId) (x:Operand):Rs :=
 match ev G tm x with
 | some z=>Qz0 h e z
 | none=>.stuck
def evP (ps:List (Nat×Operand)):Option (List (Nat×V)) :=
 qc0 (fun p=>match ev G tm p.2 with
  | some y=>some (p.1,y)
  | none=>none) ps
def yV0 (t:TypeId) (ps:Array (Nat×Operand)):Rs :=
 match evP G tm ps.toList with
 | some l=>qj0 h (JF0 P t l)
 | none=>.stuck
def GH0 (t:TypeId) (len:Nat) (ps:Array (Nat×Operand)):Rs :=
 match evP G tm ps.toList with
 | none=>.stuck
 | some l=>match qo0 P t with
  | none=>.stuck
  | some e=>match zero P e with
   | none=>.stuck
   | some z=>bif Nat.beq (size P e) 0||!(Nat.ble (Nat.mul len (size P e)) 65536)||!(Nat.beq (List.len z.cells) (size P e))||!z.flat then .stuck else
    match ZA0 (size P e) l (List.rep z len) with
    | some es=>.val (.sl h.n 0 0 len none) (newRow h e (size P e) 0 (some len) es)
    | none=>.stuck
def yn0 (t:TypeId) (a x:Operand):Rs :=
 match ev G tm a with
 | some a=>match ev G tm x with
  | some x=>match store P h t a x with
   | some h'=>.skip h'
   | none=>.stuck
  | none=>.stuck
 | none=>.stuck
def QV0 (x:V):Option V :=
 match x with
 | .ptr a b c=>some (.ptr a b c)
 | .gptr a b c=>some (.gptr a b c)
 | .func f a b=>match f with
  | .method _=>none
  | _=>some (.func f a b)
 | _=>none
def Qi0 (f:Fn) (a b:Array Operand):Rs :=
 match f with
 | .yield _=>.stuck
 | f=>match qc0 (ev G tm) a.toList with
  | some a=>match qc0 (ev G tm) b.toList with
   | some b=>.val (.func f a b) h
   | none=>.stuck
  | none=>.stuck
def ZZ0 (t:TypeId) (l c:Operand):Rs :=
 match qo0 P t with
 | none=>.stuck
 | some e=>match zero P e with
  | none=>.stuck
  | some z=>match ev G tm l with
   | some (.int _ (.ofNat l))=>match ev G tm c with
    | some (.int _ (.ofNat c)) =>
     bif Nat.ble l c&&Nat.ble (Nat.mul c (Nat.add (P.bytesOf e) 1)) 16777216&&!(Nat.beq (size P e) 0)&&Nat.beq (List.len z.cells) (size P e)&&z.flat then
      .val (.sl h.n 0 0 l none) (newRow h e (size P e) 0 (some c) (List.rep z l)) else .stuck
    | _=>.stuck
   | _=>.stuck
def evO (x:Option Operand):Option (Option V) :=
 match x with
 | none=>some none
 | some y=>match ev G tm y with
  | some v=>some (some v)
  | none=>none
def yZ0 (t:TypeId) (x:Operand) (lo hi mx:Option Operand):Rs :=
 match ev G tm x with
 | none=>.stuck
 | some x=>match evO G tm lo with
  | none=>.stuck
  | some lo=>match evO G tm hi with
   | none=>.stuck
   | some hi=>match evO G tm mx with
    | none=>.stuck
    | some mx=>qj0 h (slice P h t x lo hi mx)
def Qg0 (t:TypeId) (x:Operand) (f:Nat):Rs :=
 match Zz0 P t f with
 | some (ft,k)=>bif Nat.beq (size P ft) 0 then .stuck else o1 G tm h x (fun a=>Ym0 a k)
 | none=>.stuck
def Qf0 (t:TypeId) (x:Operand) (f:Nat):Rs :=
 match Zz0 P t f with
 | some (ft,k)=>o1 G tm h x (fun a=>match a with
  | .agg cs=>yf0 P ft (List.takeN (List.dropN cs k) (size P ft))
  | _=>none)
 | none=>.stuck
def jV0 (ok:Bool) (e:TypeId):Option (Option V)→Option V
 | some (some x)=>some (bif ok then .tup [x,.bool true] else x)
 | some none=>match zero P e with
  | some z=>some (bif ok then .tup [z,.bool false] else z)
  | none=>none
 | none=>none
def Qv0 (ks:List V):List V→List (V×V) :=
 List.rec (motive:=fun _=>List V→List (V×V)) (fun _=>[]) (fun k _ ih vs=>match vs with
  | []=>[]
  | v::vs=>(k,v)::ih vs) ks
def lookup (t:TypeId) (ok:Bool) (m k:V):Option V :=
 match ZQ0 P t with
 | none=>none
 | some (kt,e)=>bif zf0 P kt k then (match m with
  | .nilm=>jV0 P ok e (some none)
  | .map r=>match h.get r with
   | .map es=>jV0 P ok e (findKey k es)
   | _=>none
  | .gmap ks vs=>jV0 P ok e (findKey k (Qv0 ks vs))
  | _=>none) else none
def ZS0 (t:TypeId) (m k x:V):Rs :=
 match ZQ0 P t with
 | none=>.stuck
 | some (kt,_)=>match m with
  | .map r=>match h.get r with
   | .map es=>bif zf0 P kt k&&x.flat then (match XI0 k x es with
    | some es'=>.skip (h.set r (.map es'))
    | none=>.stuck) else .stuck
   | _=>.stuck
  | _=>.stuck
def yW0 (t:TypeId) (m k x:Operand):Rs :=
 match ev G tm m with
 | some m=>match ev G tm k with
  | some k=>match ev G tm x with
   | some x=>ZS0 P h t m k x
   | none=>.stuck
  | none=>.stuck
 | none=>.stuck
def GI0 (res:Option Operand):Rs :=
 match res with
 | none=>.val (.map h.n) (h.new (.map []))
 | some _=>.stuck
def Yb0 (t:TypeId) (x:Operand):Rs :=
 match P.underlying t with
 | some .string=>match ev G tm x with
  | some (.str s)=>.val (.iter h.n) (h.new (.siter s 0))
  | _=>.stuck
 | some (.map _ _)=>match ev G tm x with
  | some (.map r)=>match h.get r with
   | .map es=>.val (.iter h.n) ((h.set r .dead).new (.miter es none))
   | _=>.stuck
  | some .nilm=>.val (.iter h.n) (h.new (.miter [] none))
  | _=>.stuck
 | _=>.stuck
def emptyL {α:Type}:List α→Bool
 | []=>true
 | _=>false
def jr0 (it:Operand) (isString:Bool):Rs :=
 bif isString then (match ev G tm it with
  | some (.iter r)=>match h.get r with
   | .siter s pos =>
    bif Nat.blt pos (List.len s) then
     .val (.tup [.bool true,.int .i64 (Int.ofNat pos),.int .i32 (Int.ofNat (Utf8.decode ⟨⟨s⟩⟩ pos).1)]) (h.set r (.siter s (Nat.add pos (Utf8.decode ⟨⟨s⟩⟩ pos).2)))
    else .val (.tup [.bool false]) h
   | _=>.stuck
  | _=>.stuck) else (match ev G tm it with
  | some (.iter r)=>match h.get r with
   | .miter left _=>match left with
    | []=>.val (.tup [.bool false]) h
    | p::rest=>bif emptyL rest then .val (.tup [.bool true,p.1,p.2]) (h.set r (.miter [] (some p))) else .stuck
   | _=>.stuck
  | _=>.stuck)
def ZY0 (it:Operand):Rs :=
 match ev G tm it with
 | some (.iter r)=>match h.get r with
  | .miter _ cur=>match cur with
   | some p=>.val (.tup [p.1,p.2]) h
   | none=>.stuck
  | _=>.stuck
 | _=>.stuck
def extract (i:Nat) (x:V):Option V :=
 match x with
 | .tup vs=>List.at vs i
 | _=>none
def zw0 (c:Call):Rs :=
 match qc0 (ev G tm) c.args.toList with
 | none=>.stuck
 | some args =>
  match c.callee with
  | .builtin b=>match b with
   | .recover=>.recover h
   | b=>builtin P b c.argTypes.toList h args
  | .value f=>match ev G tm f with
   | some f=>jL0 P h f args
   | none=>.stuck
  | .invoke _ _=>.stuck
def yc0 (c:Call):Rs :=
 match qc0 (ev G tm) c.args.toList with
 | none=>.stuck
 | some args =>
  match c.callee with
  | .value f=>match ev G tm f with
   | some (.func fn first cap)=>match fn with
    | .func g=>.defer g (List.app (List.app first args) cap) h
    | _=>.stuck
   | _=>.stuck
  | _=>.stuck
def Ya0 (x:Operand):Rs :=
 match ev G tm x with
 | some (.iface t y)=>.panic (.iface t y) h
 | _=>.stuck
def jf0 (_:Program) (_:Nat→Option V) (_:T V) (_:Heap):Rs:=.stuck
def operD (op:Op):Program→(Nat→Option V)→T V→Heap→Rs :=
 Op.rec (motive:=fun _=>Program→(Nat→Option V)→T V→Heap→Rs)
  (fun x _ G tm h=>yX0 G tm h x)
  (fun x _ G tm h=>yX0 G tm h x)
  (fun c a b _ G tm h=>yY0 G tm h c a b)
  (fun e P _ _ h=>ZX0 P h e)
  (fun e x _ G tm h=>oBox G tm h e x)
  (fun t ps P G tm h=>yV0 P G tm h t ps)
  (fun t len ps P G tm h=>GH0 P G tm h t len ps)
  (fun t m k x P G tm h=>yW0 P G tm h t m k x)
  (fun t a P G tm h=>o1 G tm h a (load P h t))
  (fun t a x P G tm h=>yn0 P G tm h t a x)
  (fun _=>jf0)
  (fun _=>jf0)
  (fun x _ G tm h=>o1 G tm h x QV0)
  (fun op t x y _ P G tm h=>o2 G tm h x y (binOp P h t (qP0 x||qP0 y) op))
  (fun op _ x _ G tm h=>o1 G tm h x (unOp op))
  (fun s d x P G tm h=>o1 G tm h x (convert P s d h))
  (fun _ _=>jf0)
  (fun t x P G tm h=>o1 G tm h x (fun v=>bif v.flat&&GG0 P t then some (.iface t v) else none))
  (fun f a b _ G tm h=>Qi0 G tm h f a b)
  (fun _ res _ _ _ h=>GI0 h res)
  (fun _ _=>jf0)
  (fun t l c P G tm h=>ZZ0 P G tm h t l c)
  (fun t x lo hi mx P G tm h=>yZ0 P G tm h t x lo hi mx)
  (fun t x f P G tm h=>Qg0 P G tm h t x f)
  (fun t x f P G tm h=>Qf0 P G tm h t x f)
  (fun t x i P G tm h=>o2 G tm h x i (indexAddr P h t))
  (fun t x i P G tm h=>o2 G tm h x i (index P t))
  (fun t m k ok P G tm h=>o2 G tm h m k (lookup P h t ok))
  (fun t m k x P G tm h=>yW0 P G tm h t m k x)
  (fun _ _ _=>jf0)
  (fun _ _ _ _=>jf0)
  (fun t x P G tm h=>Yb0 P G tm h t x)
  (fun it isString _ G tm h=>jr0 G tm h it isString)
  (fun it _ G tm h=>ZY0 G tm h it)
  (fun x _ t ok P G tm h=>o1 G tm h x (fun x=>typeAssert P x t ok))
  (fun x i _ G tm h=>o1 G tm h x (extract i))
  (fun c P G tm h=>zw0 P G tm h c)
  (fun _=>jf0)
  (fun c _ G tm h=>yc0 G tm h c)
  (fun x _ G tm h=>Ya0 G tm h x)
  (fun _ _=>jf0)
  (fun _ _ _=>jf0)
  (fun _ _=>jf0)
  op
def qC0 (o:Oper):Rs:=operD o.op P G tm h
def qA0 (f:V→Bool) (l:List V):Bool:=List.rec true (fun v _ ih=>bif f v then ih else false) l
def ground (k:Nat):V→Bool :=
 Nat.rec (motive:=fun _=>V→Bool) (fun _=>false) (fun _ ih v=>match v with
  | .int _ _=>true
  | .bool _=>true
  | .str _=>true
  | .nilp=>true
  | .nils=>true
  | .nilm=>true
  | .nilf=>true
  | .nili=>true
  | .gsl _ _ _=>true
  | .osl _ _=>true
  | .gptr _ _ _=>true
  | .gmap _ _=>true
  | .func f a b=>match f with
   | .func _=>bif qA0 ih a then qA0 ih b else false
   | _=>false
  | .agg vs=>qA0 ih vs
  | .iface _ x=>ih x
  | _=>false) k
def Qh0 (t:TypeId) (len:Nat) (ps:Array (Nat×Operand)):Rs :=
 match evP G tm ps.toList with
 | none=>.stuck
 | some l=>match qo0 P t with
  | none=>.stuck
  | some e=>match zero P e with
   | none=>.stuck
   | some z=>bif Nat.beq (size P e) 0||!(Nat.ble (Nat.mul len (size P e)) 65536)||!(Nat.beq (List.len z.cells) (size P e))||!z.flat then .stuck else
    match ZA0 (size P e) l (List.rep z len) with
    | some es=>bif qA0 (ground 3) es then .val (.gsl (size P e) es (some len)) h else .stuck
    | none=>.stuck
def qt0 (o:Oper):Rs :=
 match o.op with
 | .buildSlice t len ps=>Qh0 P G tm h t len ps
 | _=>qC0 P G tm h o
end ops
end
inductive Ex where
 | normal
 | exit (id:Nat)
 | goto (l:Nat)
 | ret
 | panic (v:V)
structure Fr where
 fn:FuncId
 n:Nat
 tm:T V
 marks:List Nat
 defers:List (FuncId×List V)
 round:Option Nat
 dk:Option (Option V)
 did:Bool
def zP0 (f:V→V→Bool) (a:List V):List V→Bool :=
 List.rec (motive:=fun _=>List V→Bool) (fun b=>qb0 b) (fun x _ ih b=>match b with
  | []=>false
  | y::ys=>bif f x y then ih ys else false) a
def yC0 (a b:Option Nat):Bool :=
 match a with
 | none=>(match b with | none=>true | some _=>false)
 | some x=>(match b with | none=>false | some y=>Nat.beq x y)
def veq (k:Nat):V→V→Bool :=
 Nat.rec (motive:=fun _=>V→V→Bool) (fun _ _=>false) (fun _ ih x y=>match x with
  | .int k a=>(match y with | .int k' b=>zh0 k k'&&ieq a b | _=>false)
  | .bool a=>(match y with | .bool b=>Bool.rec (!b) b a | _=>false)
  | .str a=>(match y with | .str b=>zC0 a b | _=>false)
  | .nilp=>(match y with | .nilp=>true | _=>false)
  | .ptr a b c=>(match y with | .ptr a' b' c'=>Nat.beq a a'&&Nat.beq b b'&&Nat.beq c c' | _=>false)
  | .nils=>(match y with | .nils=>true | _=>false)
  | .sl a b c d e=>(match y with | .sl a' b' c' d' e'=>Nat.beq a a'&&Nat.beq b b'&&Nat.beq c c'&&Nat.beq d d'&&yC0 e e' | _=>false)
  | .gsl s es c=>(match y with | .gsl s' es' c'=>Nat.beq s s'&&yC0 c c'&&zP0 ih es es' | _=>false)
  | .gptr s es c=>(match y with | .gptr s' es' c'=>Nat.beq s s'&&Nat.beq c c'&&zP0 ih es es' | _=>false)
  | .nilm=>(match y with | .nilm=>true | _=>false)
  | .map a=>(match y with | .map a'=>Nat.beq a a' | _=>false)
  | .nilf=>(match y with | .nilf=>true | _=>false)
  | .func f a b=>(match y with | .func f' a' b'=>decide (f=f')&&zP0 ih a a'&&zP0 ih b b' | _=>false)
  | .nili=>(match y with | .nili=>true | _=>false)
  | .iface t v=>(match y with | .iface t' v'=>Nat.beq t t'&&ih v v' | _=>false)
  | .agg a=>(match y with | .agg a'=>zP0 ih a a' | _=>false)
  | .tup a=>(match y with | .tup a'=>zP0 ih a a' | _=>false)
  | .imod k a b=>(match y with | .imod k' a' b'=>zh0 k k'&&Nat.beq a a'&&Nat.beq b b' | _=>false)
  | _=>false) k
/-- Pure data out of values: what they name of the heap is read, and may not be written any more. -/
def qy0 (f:Heap→V→Option (V×Heap)) (l:List V):Heap→Option (List V×Heap) :=
 List.rec (motive:=fun _=>Heap→Option (List V×Heap)) (fun h=>some ([],h)) (fun v _ ih h=>match f h v with
  | none=>none
  | some (v',h1)=>match ih h1 with
   | none=>none
   | some (l',h2)=>some (v'::l',h2)) l
def jb0 (w:List V→V):Option (List V×Heap)→Option (V×Heap)
 | some (l,h)=>some (w l,h)
 | none=>none
def qB0 (r:Nat):List Nat→Bool
 | []=>false
 | x::l=>bif Nat.beq x r then true else qB0 r l
def jt0 (f:Heap→V→Option (V×Heap)) (seen:List Nat) (h:Heap) (r ver o n:Nat) (c:Option Nat):Option (V×Heap) :=
 match h.get r with
 | .row ver' _ sz _ cap es =>
  bif Nat.beq ver ver'&&!(qB0 r seen)&&Nat.ble (Nat.add o n) (List.len es) then
   match qy0 f (List.takeN (List.dropN es o) n) h with
   | some (es',h1) =>
    match h1.get r with
    | .row v2 t2 s2 pb2 c2 e2=>bif Nat.beq ver v2 then some (.gsl sz es' (match c with | some c=>some c | none=>jz0 cap o),h1.set r (.row v2 t2 s2 (Nat.max pb2 (Nat.add o n)) c2 e2)) else none
    | _=>none
   | none=>none
  else none
 | _=>none
def Ja0 (f:Fn) (k:Heap→Option (List V×Heap)):Option (List V×Heap)→Option (V×Heap)
 | some (a,h1)=>match k h1 with
  | some (b,h2)=>some (.func f a b,h2)
  | none=>none
 | none=>none
def qd1 (h:Heap) (r:Nat):Nat :=
 match h.get r with
 | .row _ _ _ _ _ es=>List.len es
 | _=>0
def XH0 (f:Heap→V→Option (V×Heap)) (seen:List Nat) (h:Heap) (r ver off:Nat):Option (V×Heap) :=
 match jt0 f seen h r ver 0 (qd1 h r) none with
 | some (x,h')=>match x with
  | .gsl sz es _=>some (.gptr sz es off,h')
  | _=>none
 | none=>none
def fstL (es:List (V×V)):List V:=List.rec [] (fun p _ ih=>p.1::ih) es
def sndL (es:List (V×V)):List V:=List.rec [] (fun p _ ih=>p.2::ih) es
def XG0 (f:Heap→V→Option (V×Heap)) (seen:List Nat) (h:Heap) (r:Nat):Option (V×Heap) :=
 match h.get r with
 | .map es=>bif qB0 r seen then none else
  match qy0 f (fstL es) h with
  | none=>none
  | some (ks,h1)=>match qy0 f (sndL es) h1 with
   | none=>none
   | some (vs,h2)=>match h2.get r with
    | .map _=>some (.gmap ks vs,h2.set r .dead)
    | _=>none
 | _=>none
def pub (seen:List Nat) (k:Nat):Heap→V→Option (V×Heap) :=
 Nat.rec (motive:=fun _=>Heap→V→Option (V×Heap)) (fun _ _=>none) (fun _ ih h v =>
  match v with
  | .int a b=>some (.int a b,h)
  | .bool b=>some (.bool b,h)
  | .str s=>some (.str s,h)
  | .nilp=>some (.nilp,h)
  | .nils=>some (.nils,h)
  | .nilm=>some (.nilm,h)
  | .nilf=>some (.nilf,h)
  | .nili=>some (.nili,h)
  | .gsl a b c=>some (.gsl a b c,h)
  | .osl a b=>some (.osl a b,h)
  | .gptr a b c=>some (.gptr a b c,h)
  | .func f a b=>match f with
   | .func _=>Ja0 f (qy0 ih b) (qy0 ih a h)
   | _=>none
  | .agg vs=>jb0 .agg (qy0 ih vs h)
  | .tup vs=>jb0 .tup (qy0 ih vs h)
  | .iface t x=>match ih h x with
   | some (x',h')=>some (.iface t x',h')
   | none=>none
  | .sl r ver o n c=>jt0 ih seen h r ver o n c
  | .ptr r ver off=>XH0 ih seen h r ver off
  | .gmap a b=>some (.gmap a b,h)
  | .map r=>XG0 ih seen h r
  | _=>none) k
def depth:Nat:=40
def qV0 {α:Type} (f:α→Bool) (l:List α):Bool:=List.rec true (fun x _ ih=>bif f x then ih else false) l
def retV (h:Heap) (seen:List Nat) (v:V):Option (V×Heap×List Nat) :=
 match v with
 | .sl r ver o n c =>
  match h.get r with
  | .row ver' ty sz _ cap es =>
   bif Nat.beq ver ver'&&Nat.beq o 0&&Nat.beq n (List.len es)&&GE0 c&&!(qB0 r seen) then
    match qy0 (pub (r::seen) depth) es h with
    | some (es',h1)=>match h1.get r with
     | .row _ _ _ pb _ _=>some (.fsl ty sz pb es' cap,h1,r::seen)
     | _=>none
    | none=>none
   else match pub seen depth h v with
    | some (v',h')=>some (v',h',seen)
    | none=>none
  | _=>none
 | v=>match pub seen depth h v with
  | some (v',h')=>some (v',h',seen)
  | none=>none
def retL (l:List V):Heap→List Nat→Option (List V×Heap×List Nat) :=
 List.rec (motive:=fun _=>Heap→List Nat→Option (List V×Heap×List Nat)) (fun h seen=>some ([],h,seen)) (fun v _ ih h seen=>match retV h seen v with
  | none=>none
  | some (v',h1,s1)=>match ih h1 s1 with
   | none=>none
   | some (l',h2,s2)=>some (v'::l',h2,s2)) l
def Jc0 (h:Heap) (seen:List Nat) (v:V):Option (V×Heap×List Nat) :=
 match v with
 | .agg vs=>match retL vs h seen with
  | some (l,h',s)=>some (.agg l,h',s)
  | none=>none
 | v=>retV h seen v
def XM0 (l:List V):Heap→List Nat→Option (List V×Heap×List Nat) :=
 List.rec (motive:=fun _=>Heap→List Nat→Option (List V×Heap×List Nat)) (fun h seen=>some ([],h,seen)) (fun v _ ih h seen=>match Jc0 h seen v with
  | none=>none
  | some (v',h1,s1)=>match ih h1 s1 with
   | none=>none
   | some (l',h2,s2)=>some (v'::l',h2,s2)) l
def Ye0 (h:Heap) (v:V):Option V :=
 match v with
 | .tup vs=>match XM0 vs h [] with
  | some (l,_)=>some (.tup l)
  | none=>none
 | v=>match Jc0 h [] v with
  | some (v',_)=>some v'
  | none=>none
def Zh0 (h:Heap) (v:V):V×Heap :=
 match v with
 | .fsl ty sz pb es cap=>(.sl h.n 0 0 (List.len es) none,h.new (.row 0 ty sz pb cap es))
 | v=>(v,h)
def Zi0 (l:List V):Heap→List V×Heap :=
 List.rec (motive:=fun _=>Heap→List V×Heap) (fun h=>([],h)) (fun v _ ih h=>match Zh0 h v with
  | (v',h1)=>match ih h1 with
   | (l',h2)=>(v'::l',h2)) l
def Qs0 (h:Heap) (v:V):V×Heap :=
 match v with
 | .agg vs=>match Zi0 vs h with
  | (l,h')=>(.agg l,h')
 | v=>Zh0 h v
def Zj0 (l:List V):Heap→List V×Heap :=
 List.rec (motive:=fun _=>Heap→List V×Heap) (fun h=>([],h)) (fun v _ ih h=>match Qs0 h v with
  | (v',h1)=>match ih h1 with
   | (l',h2)=>(v'::l',h2)) l
def thaw (h:Heap) (v:V):V×Heap :=
 match v with
 | .tup vs=>match Zj0 vs h with
  | (l,h')=>(.tup l,h')
 | v=>Qs0 h v
def Ze0 (v:V):V :=
 match v with
 | .fsl _ sz _ es cap=>.gsl sz es cap
 | v=>v
def Qd0 (f:V→V) (l:List V):List V:=List.rec [] (fun v _ ih=>f v::ih) l
def Zf0 (v:V):V :=
 match v with
 | .agg vs=>.agg (Qd0 Ze0 vs)
 | v=>Ze0 v
def still (v:V):V :=
 match v with
 | .tup vs=>.tup (Qd0 Zf0 vs)
 | v=>Zf0 v
structure Env where
 shared:FuncId→Bool
 pubRet:FuncId→Bool
 prim:FuncId→List V→Option V
 glob:Nat→Option V
 lit:FuncId→Bool:=fun _=>false
 borrow:FuncId→Bool:=fun _=>false
 data:FuncId→Bool:=fun _=>false
inductive Task where
 | code (c:Code) (fr:Fr) (h:Heap)
 | call (f:FuncId) (args:List V) (h:Heap)
 | yield (l:Nat) (args:List V) (h:Heap)
 | dcall (f:FuncId) (args:List V) (pan:Option V) (h:Heap)
inductive Res where
 | code (e:Ex) (fr:Fr) (h:Heap)
 | ret (v:V) (h:Heap)
 | panic (v:V) (h:Heap)
 | dret (did:Bool) (h:Heap)
 | none (f:FuncId) (o:Option Oper)
def yQ0 (E:Env) (o:Op):Bool :=
 match o with
 | .move _ | .assign _ | .pick .. | .build .. | .buildSlice .. | .load .. | .nilCheck _ | .binOp .. | .unOp .. | .convert .. | .makeInterface .. | .makeFunc .. | .slice .. | .fieldAddr .. | .field .. | .indexAddr .. | .index .. | .lookup .. | .typeAssert .. | .extract ..=>true
 | .call c=>match c.callee with
  | .builtin .len | .builtin .cap | .builtin .max | .builtin .min | .builtin .unsafeSliceData=>true
  | .value (.func f)=>!(E.shared f)
  | _=>false
 | _=>false
def zR0 (E:Env) (o:Op):Bool :=
 match o with
 | .call c=>match c.callee with
  | .value (.func f)=>!(E.shared f)
  | _=>false
 | _=>false
def Yi0 (l:List Operand):List Tmp:=l.filterMap fun | .tmp t=>some t | _=>none
def Ga0 (all:List Oper) (o:Oper):List Tmp :=
 match o.guard with
 | some (j,_)=>(match List.at all j with
  | some x=>x.dst.toList
  | none=>[])
 | none=>[]
def looks (all:List Oper) (o:Oper):List Tmp:=List.app o.dst.toList (List.app (Yi0 o.op.operands.toList) (Ga0 all o))
structure DOp where
 o:Oper
 i:Nat
 w:Bool
 b:Nat
 lk:List Tmp
def tb (m n:Nat):Bool:=Nat.beq (Nat.land (Nat.shiftRight m n) 1) 1
def ys0 (e:Edge):Bool :=
 match e.ground with
 | .textOnly _=>false
 | .gcOnly _=>false
 | _=>true
def getN (l:List Nat) (i:Nat):Nat :=
 match List.at l i with
 | some x=>x
 | none=>0
def jh0 (tbl:List Nat) (es:List Edge):Nat:=List.rec 0 (fun e _ ih=>bif ys0 e then Nat.lor (Nat.lor (Nat.pow 2 e.on) (getN tbl e.on)) ih else ih) es
def yT0 (E:Env) (all:List Oper) (l:List Oper):Nat→List Nat→List DOp :=
 List.rec (motive:=fun _=>Nat→List Nat→List DOp) (fun _ _=>[]) (fun o _ ih i tbl=>⟨o,i,!(yQ0 E o.op),jh0 tbl o.after.toList,looks all o⟩::ih (Nat.succ i) (List.app tbl [jh0 tbl o.after.toList])) l
def YB1 (d:DOp):Bool:=qV0 (fun e=>bif ys0 e then Nat.blt e.on d.i else true) d.o.after.toList
def Xs0 (o:Oper) (l:List Tmp):Bool :=
 match o.dst with
 | some d=>!(qB0 d l)
 | none=>true
def YX0 (a b:DOp):Bool:=tb b.b a.i||(!(a.w&&b.w)&&Xs0 a.o b.lk&&Xs0 b.o a.lk)
def GM0 (l:List DOp):Bool:=List.rec true (fun d l ih=>bif qV0 (YX0 d) l then ih else false) l
def QF0 (E:Env) (all:List Oper):Option (List DOp) :=
 bif qV0 YB1 (yT0 E all all 0 [])&&GM0 (yT0 E all all 0 []) then some (yT0 E all all 0 []) else none
def Yj0 (g:Nat×Bool) (all:List Oper) (tm:T V):Option Bool :=
 match List.at all g.1 with
 | some o=>match o.dst with
  | some d=>match tm.get undef d with
   | .bool b=>some (Bool.rec (!g.2) g.2 b)
   | .any=>.none
   | .fsl _ _ _ _ _=>.none
   | _=>some false
  | .none=>some false
 | .none=>some false
def wanted (all:List Oper) (fr:Fr) (o:Oper):Option Bool :=
 Option.rec (motive:=fun _=>List Oper→T V→Option Bool) (fun _ _=>some true) Yj0 o.guard all fr.tm
def thawR (h:Heap) (v:V):Res :=
 match thaw h v with
 | (v',h')=>.ret v' h'
def QI0 (k:Heap→V→Res) (np:Bool) (h:Heap) (f:FuncId) (r:Res):Res :=
 match r with
 | .ret v hc=>match Ye0 hc v with
  | some g=>k h g
  | .none=>.none f .none
 | .panic v hc=>match pub [] depth hc v with
  | some (g,_)=>Bool.rec (.panic g h) (.none f .none) np
  | .none=>.none f .none
 | .none a b=>.none a b
 | _=>.none f .none
def QX0:V→Bool
 | .int _ _=>true
 | .bool _=>true
 | .str _=>true
 | _=>false
def YZ0 (v:V):Bool :=
 match v with
 | .tup vs=>qV0 QX0 vs
 | v=>QX0 v
def give (E:Env) (f:FuncId) (h:Heap) (v:V):Option (V×Heap) :=
 Bool.rec (Bool.rec (some (thaw h v)) (some (still v,h)) (E.data f)) (Bool.rec none (some (v,h)) (YZ0 v)) (E.borrow f)
def QK0 (E:Env) (f:FuncId) (h:Heap) (v:V):Res :=
 match give E f h v with
 | some (v',h')=>.ret v' h'
 | .none=>.none f .none
def Yw0 (E:Env) (ih:Task→Res) (f:FuncId) (args:List V) (h:Heap):Res :=
 match qy0 (pub [] depth) args h with
 | .none=>.none f .none
 | some (gs,h1) =>
  match E.prim f gs with
  | some v=>QK0 E f (Bool.rec h1 h (E.borrow f)) v
  | .none=>QI0 (QK0 E f) (E.borrow f) (Bool.rec h1 h (E.borrow f)) f (ih (.call f gs Heap.empty))
def Jo0 (h:Heap) (v:V):Res:=.ret (still v) h
def yj0 (E:Env) (ih:Task→Res) (f:FuncId) (args:List V) (h:Heap):Res :=
 bif qA0 (ground 3) args then
  (match E.prim f args with
  | some v=>Jo0 h v
  | .none=>QI0 Jo0 false h f (ih (.call f args Heap.empty)))
 else .none f .none
def Qm0 (f:FuncId) (r:Res):Res :=
 match r with
 | .ret v h=>match pub [] depth h v with
  | some (v',h')=>.ret v' h'
  | .none=>.none f .none
 | r=>r
def Kv0 (E:Env) (ih:Task→Res) (f:FuncId) (args:List V) (h:Heap):Res :=
 Bool.rec (ih (.call f args h)) (Qm0 f (ih (.call f args h))) (E.pubRet f)
def zV0 (E:Env) (ih:Task→Res) (lit:Bool) (f:FuncId) (args:List V) (h:Heap):Res :=
 Bool.rec (Bool.rec (Yw0 E ih f args h) (yj0 E ih f args h) lit) (Kv0 E ih f args h) (E.shared f)
def Fr.putD (d:Tmp) (fr:Fr) (v:V):Option Fr :=
 Fr.rec (motive:=fun _=>Tmp→V→Option Fr) (fun fn n tm marks defers round dk did d v=>Bool.rec .none (some ⟨fn,n,tm.set undef v d,marks,defers,round,dk,did⟩) (Nat.blt d n)) fr d v
def Fr.put (fr:Fr) (d:Option Tmp) (v:V):Option Fr :=
 Option.rec (motive:=fun _=>Fr→V→Option Fr) (fun fr _=>some fr) Fr.putD d fr v
def zM0 (o:Oper) (fr:Fr) (ih:Fr→Heap→Res) (v:V) (h:Heap):Res :=
 Option.rec (motive:=fun _=>Oper→Fr→(Fr→Heap→Res)→Heap→Res) (fun o fr _ _=>.none fr.fn (some o)) (fun fr' _ _ ih h=>ih fr' h) (fr.put o.dst v) o fr ih h
def Yn0 (o:Oper) (fr:Fr) (ih:Fr→Heap→Res) (pk:V→Heap→Res) (r:Res):Res :=
 Res.rec (motive:=fun _=>Oper→Fr→(Fr→Heap→Res)→(V→Heap→Res)→Res) (fun _ _ _ o fr _ _=>.none fr.fn (some o)) (fun v h o fr ih _=>zM0 o fr ih v h) (fun v h _ _ _ pk=>pk v h) (fun _ _ o fr _ _=>.none fr.fn (some o)) (fun a b _ _ _ _=>.none a b) r o fr ih pk
def Yv1 (o:Oper) (fr:Fr) (_:Fr→Heap→Res) (_:Heap):Res:=.none fr.fn (some o)
def QE0 (o:Oper) (fr:Fr) (ih:Fr→Heap→Res) (f:FuncId) (args:List V) (h:Heap):Res :=
 match fr.round with
 | some _=>.none fr.fn (some o)
 | .none=>match fr.marks with
  | []=>zM0 o { fr with defers:=(f,args)::fr.defers } ih undef h
  | _=>.none fr.fn (some o)
def qM0 (E:Env) (ihr:Task→Res) (lit:Bool) (o:Oper) (fr:Fr) (ih:Fr→Heap→Res) (pk:V→Heap→Res) (r:Rs):Res :=
 Rs.rec (motive:=fun _=>Env→(Task→Res)→Bool→Oper→Fr→(Fr→Heap→Res)→(V→Heap→Res)→Res)
  (fun v h _ _ _ o fr ih _=>zM0 o fr ih v h)
  (fun h _ _ _ o fr ih _=>zM0 o fr ih undef h)
  (fun f args h E ihr lit o fr ih pk=>Yn0 o fr ih pk (zV0 E ihr lit f args h))
  (fun l args h _ ihr _ o fr ih pk=>Yn0 o fr ih pk (ihr (.yield l args h)))
  (fun v h _ _ _ _ _ _ pk=>pk v h)
  (fun f args h _ _ _ o fr ih _=>QE0 o fr ih f args h)
  (fun h _ _ _ o fr ih _=>Yv1 o fr ih h)
  (fun _ _ _ o fr _ _=>.none fr.fn (some o)) r E ihr lit o fr ih pk
def QW0 (r r':Rs):Rs :=
 match r with
 | .stuck=>r'
 | r=>r
def qm0 (lit:Bool) (P:Program) (G:Nat→Option V) (tm:T V) (h:Heap) (o:Oper):Rs:=Bool.rec (qC0 P G tm h o) (QW0 (qt0 P G tm h o) (qC0 P G tm h o)) lit
def Je0 (P:Program) (E:Env) (ihr:Task→Res) (all:List Oper) (o:Oper) (ih:Fr→Heap→Res) (fr:Fr) (h:Heap):Res :=
 Option.rec (motive:=fun _=>Program→Env→(Task→Res)→Oper→(Fr→Heap→Res)→Fr→Heap→Res) (fun _ _ _ o _ fr _=>.none fr.fn (some o))
  (fun b P E ihr o ih fr h=>Bool.rec (zM0 o fr ih undef h) (qM0 E ihr false o fr ih (fun v h=>.code (.panic v) fr h) (qm0 (E.lit fr.fn) P E.glob fr.tm h o)) b) (wanted all fr o) P E ihr o ih fr h
def Zc0 (P:Program) (E:Env) (ihr:Task→Res) (all:List Oper) (l:List Oper):Fr→Heap→Res :=
 List.rec (motive:=fun _=>Program→Env→(Task→Res)→List Oper→Fr→Heap→Res) (fun _ _ _ _ fr h=>.code .normal fr h)
  (fun o _ ih P E ihr all fr h=>Je0 P E ihr all o (ih P E ihr all) fr h) l P E ihr all
inductive Outc where
 | val (v:V) (h:Heap)
 | panic (v:V) (h:Heap)
 | stuck
def orOf (r:Res):Outc :=
 match r with
 | .ret v h=>.val v h
 | .panic v h=>.panic v h
 | _=>.stuck
def qn0 (P:Program) (E:Env) (ihr:Task→Res) (tm:T V) (h:Heap) (o:Oper):Outc :=
 match qt0 P E.glob tm h o with
 | .val v h'=>.val v h'
 | .skip h'=>.val undef h'
 | .call f args h'=>orOf (zV0 E ihr true f args h')
 | .yield l args h'=>orOf (ihr (.yield l args h'))
 | .panic v h'=>.panic v h'
 | _=>.stuck
structure Hp where
 pb:Nat
 h:Heap
 nx:Option Nat
structure Rc where
 o:Oper
 i:Nat
 b:Nat
 tm:T V
 v:V
structure Pn where
 i:Nat
 v:V
 h:Heap
inductive DR where
 | done (fr:Fr) (h:Heap) (hps:List Hp) (rcs:List Rc) (pan:Option Pn)
 | stuck (o:Option Oper)
def YY0 (pan:Option Pn) (b:Nat):Bool :=
 match pan with
 | some p=>tb b p.i
 | none=>false
def zn0 (pan:Option Pn):Bool :=
 match pan with
 | some _=>false
 | none=>true
abbrev DK:=Fr→Heap→Nat→List Hp→List Rc→Option Pn→DR
def jO0 (o:Oper) (v:V) (fr:Fr) (k:Fr→DR):DR :=
 Option.rec (motive:=fun _=>(Fr→DR)→DR) (fun _=>.stuck (some o)) (fun fr' k=>k fr') (fr.put o.dst v) k
def dVal (E:Env) (d:DOp) (ih:DK) (fr:Fr) (h:Heap) (pb:Nat) (hs:List Hp) (rs:List Rc) (pan:Option Pn) (r:Outc):DR :=
 match r with
 | .val v h'=>bif d.w then (bif zn0 pan then jO0 d.o v fr (fun fr'=>ih fr' h' d.b (⟨pb,h,some d.i⟩::hs) rs pan) else .stuck (some d.o))
  else jO0 d.o v fr (fun fr'=>ih fr' h pb hs (bif zR0 E d.o.op then rs else ⟨d.o,d.i,d.b,fr.tm,v⟩::rs) pan)
 | .panic v h'=>bif d.w&&zn0 pan then ih fr h pb (⟨pb,h,some d.i⟩::hs) rs (some ⟨d.i,v,h'⟩) else .stuck (some d.o)
 | .stuck=>.stuck (some d.o)
def YB0 (P:Program) (E:Env) (ihr:Task→Res) (all:List Oper) (d:DOp) (ih:DK):DK:=fun fr h pb hs rs pan =>
 bif YY0 pan d.b then ih fr h pb hs rs pan
 else match wanted all fr d.o with
  | .none=>.stuck (some d.o)
  | some t=>bif t then dVal E d ih fr h pb hs rs pan (qn0 P E ihr fr.tm h d.o)
   else bif d.w then (bif zn0 pan then jO0 d.o undef fr (fun fr'=>ih fr' h d.b (⟨pb,h,some d.i⟩::hs) rs pan) else .stuck (some d.o))
   else jO0 d.o undef fr (fun fr'=>ih fr' h pb hs rs pan)
def yJ0 (P:Program) (E:Env) (ihr:Task→Res) (all:List Oper) (l:List DOp):DK :=
 List.rec (motive:=fun _=>DK) (fun fr h pb hs rs pan=>.done fr h (bif zn0 pan then ⟨pb,h,none⟩::hs else hs) rs pan)
  (fun d _ ih=>YB0 P E ihr all d ih) l
def jp0 (b:Nat):Option Nat→Bool
 | some j=>tb b j
 | none=>false
def orD (b:Bool) (p:Prop):Bool:=bif b then true else @decide p (Classical.propDecidable p)
def yH0 (P:Program) (E:Env) (ihr:Task→Res) (r:Rc) (e:Hp):Bool :=
 bif tb e.pb r.i then true
 else bif jp0 r.b e.nx then true
 else match qn0 P E ihr r.tm e.h r.o with
  | .val v _=>orD (veq depth r.v v) (r.v=v)
  | _=>false
def jo0 (l:List DOp):Bool:=qV0 (fun d=>!d.w) l
def QC0 (P:Program) (E:Env) (ihr:Task→Res) (hps:List Hp) (rcs:List Rc):Bool:=qV0 (fun r=>qV0 (yH0 P E ihr r) hps) rcs
def zG0 (l:List DOp):Fr→Fr :=
 List.rec (motive:=fun _=>Fr→Fr) (fun fr=>fr) (fun d _ ih fr=>match fr.put d.o.dst qz0 with
  | some fr'=>ih fr'
  | none=>ih fr) l
def JN0 (P:Program) (E:Env) (ihr:Task→Res) (l:List DOp) (fn:FuncId) (r:DR):Res :=
 match r with
 | .stuck o=>.none fn o
 | .done fr h hps rcs pan=>bif jo0 l||QC0 P E ihr hps rcs then (match pan with
  | none=>.code .normal fr h
  | some p=>.code (.panic p.v) (zG0 l fr) p.h)
  else .none fn none
def Jj0 (P:Program) (E:Env) (ihr:Task→Res) (all:List Oper) (fr:Fr) (h:Heap):Res :=
 match (bif P.follows .mixedOrders then QF0 E all else none) with
 | none=>.none fr.fn none
 | some l=>JN0 P E ihr l fr.fn (yJ0 P E ihr all l fr h 0 [] [] none)
def yg0 (l:List V):Nat→T V→T V :=
 List.rec (motive:=fun _=>Nat→T V→T V) (fun _ t=>t) (fun v _ ih i t=>ih (Nat.succ i) (t.set undef v i)) l
def zX0 (k:Nat):T V:=Nat.rec .e (fun _ ih=>.n ih undef ih) k
def zZ0 (n:Nat):Nat:=Nat.log2 n+1
def GW0 (P:Program) (fr:Fr) (h:Heap) (r:ResultVar):Option V :=
 match r with
 | .tmp t=>yU0 (fr.tm.get undef t)
 | .cell a t=>load P h t (fr.tm.get undef a)
def results (P:Program) (fn:Func) (fr:Fr) (h:Heap):Option V :=
 match qc0 (GW0 P fr h) fn.results.toList with
 | some [v]=>some v
 | some vs=>some (.tup vs)
 | .none=>.none
def JJ0 (c:UInt8) (l:List UInt8):Nat:=List.rec 0 (fun b _ ih=>bif zE0 b c then Nat.succ ih else ih) l
def KT0 (c:UInt8) (l:List UInt8):Nat→Int :=
 List.rec (motive:=fun _=>Nat→Int) (fun _=>-1) (fun b _ ih i=>bif zE0 b c then Int.ofNat i else ih (Nat.succ i)) l
def xSame (args:List V) (h:Heap):Option (V×Heap) :=
 match args with
 | [v]=>some (v,h)
 | _=>.none
def QN1 (args:List V) (h:Heap):Option (V×Heap) :=
 match args with
 | [.str s,.int .u8 c]=>some (.int .i64 (Int.ofNat (JJ0 (UInt8.ofNat c.toNat) s)),h)
 | _=>.none
def QO1 (args:List V) (h:Heap):Option (V×Heap) :=
 match args with
 | [.str s,.int .u8 c]=>some (.int .i64 (KT0 (UInt8.ofNat c.toNat) s 0),h)
 | _=>.none
def xMake (P:Program) (fn:Func) (args:List V) (h:Heap):Option (V×Heap) :=
 match args with
 | [.int .i64 (.ofNat n)]=>match fn.resultTypes.toList with
  | [t]=>match qo0 P t with
   | some e=>bif Nat.ble n 16777216&&Nat.beq (size P e) 1 then some (.sl h.n 0 0 n .none,newRow h e 1 0 none []) else .none
   | .none=>.none
  | _=>.none
 | _=>.none
def YE0 (P:Program) (fn:Func) (args:List V) (h:Heap):Option (V×Heap) :=
 if fn.origin ≠ "" then .none
 else if fn.name = "internal/abi.NoEscape" then xSame args h
 else if fn.name = "internal/bytealg.CountString" then QN1 args h
 else if fn.name = "internal/bytealg.IndexByteString" then QO1 args h
 else if fn.name = "internal/bytealg.MakeNoZero" then xMake P fn args h
 else .none
def endRound (l:Nat) (r:Res):Res :=
 match r with
 | .code e _ h=>match h.get l with
  | .loop st _ fn n tm ps a b d=>match st with
   | .busy=>match e with
    | .normal=>.ret (.bool true) (h.set l (.loop .ready .none fn n tm ps a b d))
    | .ret=>.ret (.bool false) (h.set l (.loop .done (some .ret) fn n tm ps a b d))
    | .exit id=>.ret (.bool false) (h.set l (.loop .done (some (.exit id)) fn n tm ps a b d))
    | .panic _=>.none l .none
    | .goto _=>.none l .none
   | _=>.none l .none
  | _=>.none l .none
 | r=>r
def Jm0 (ps:List Tmp) (n:Nat):List V→T V→Option (T V) :=
 List.rec (motive:=fun _=>List V→T V→Option (T V)) (fun vs t=>match vs with
  | []=>some t
  | _=>.none) (fun p _ ih vs t=>match vs with
  | []=>.none
  | v::vs=>bif Nat.blt p n then ih vs (t.set undef v p) else .none) ps
def Qp0 (ih:Task→Res) (b:Code) (r:Res):Res :=
 match r with
 | .code e fr h=>match e with
  | .normal=>ih (.code b fr h)
  | _=>.code e fr h
 | r=>r
def Jh0 (E:Env) (ih:Task→Res) (c:Operand) (a b:Code) (fr:Fr) (h:Heap):Res :=
 match ev E.glob fr.tm c with
 | some (.bool t)=>Bool.rec (ih (.code b fr h)) (ih (.code a fr h)) t
 | _=>.none fr.fn .none
def Jf0 (id:Nat) (r:Res):Res :=
 match r with
 | .code e fr h=>match e with
  | .exit id'=>bif Nat.beq id' id then .code .normal fr h else .code e fr h
  | _=>.code e fr h
 | r=>r
def Ql1 (P:Program) (E:Env) (ih:Task→Res) (ops:Array Oper) (draw:Bool) (fr:Fr) (h:Heap):Res :=
 bif draw then Jj0 P E ih ops.toList fr h
 else Zc0 P E ih ops.toList ops.toList fr h
def Zu0 (fr:Fr) (h:Heap):Option (Nat×List Nat×Heap) :=
 match fr.round with
 | .none=>match fr.defers with
  | []=>some (h.n,h.n::fr.marks,h.new .defs)
  | _=>.none
 | some _=>.none
def endLoop (ih:Task→Res) (lid:Nat) (fr:Fr) (r:Res):Res :=
 match r with
 | .ret _ h=>match h.get lid with
  | .loop st pending fn n tm ps a b d =>
   match st with
   | .busy=>.none fr.fn .none
   | _=>match pending with
    | .none=>.code .normal fr (h.set lid (.loop .exhausted pending fn n tm ps a b d))
    | some c=>ih (.code c fr (h.set lid (.loop .exhausted pending fn n tm ps a b d)))
  | _=>.none fr.fn .none
 | .panic v h=>.code (.panic v) fr h
 | .none a b=>.none a b
 | _=>.none fr.fn .none
def Jk0 (P:Program) (E:Env) (ih:Task→Res) (f:Operand) (params:Array Tmp) (assign body:Code) (fr:Fr) (h:Heap):Res :=
 match ev E.glob fr.tm f with
 | .none=>.none fr.fn .none
 | some fv=>match Zu0 fr h with
  | .none=>.none fr.fn .none
  | some (d,marks,h1) =>
   match jL0 P (h1.new (.loop .ready .none fr.fn fr.n fr.tm params.toList assign body d)) fv [.func (.yield h1.n) [] []] with
   | .call g args h2=>endLoop ih h1.n { fr with marks:=marks } (bif E.shared g then ih (.call g args h2) else .none fr.fn .none)
   | _=>.none fr.fn .none
def ZJ0 (l:List Nat):Heap→Option Heap :=
 List.rec (motive:=fun _=>Heap→Option Heap) (fun h=>some h) (fun m _ ih h=>match h.get m with
  | .defs=>ih (h.set m .dead)
  | _=>.none) l
def JQ0 (P:Program) (f:FuncId) (fn:Func) (fr:Fr) (p:Option V) (h:Heap):Res :=
 match p with
 | .none=>match results P fn fr h with
  | some v=>.ret v h
  | .none=>.none f .none
 | some v=>.panic v h
def Jd0 (P:Program) (ih:Task→Res) (f:FuncId) (fn:Func) (fr:Fr) (l:List (FuncId×List V)):Option V→Heap→Res :=
 List.rec (motive:=fun _=>Option V→Heap→Res) (fun p h=>JQ0 P f fn fr p h)
  (fun d _ k p h=>match ih (.dcall d.1 d.2 p h) with
   | .dret _ h'=>k .none h'
   | .none a b=>.none a b
   | _=>.none f .none) l
def QH0 (P:Program) (ih:Task→Res) (f:FuncId) (fn:Func) (fr:Fr) (p:Option V) (h:Heap):Res :=
 match ZJ0 fr.marks h with
 | .none=>.none f .none
 | some h'=>Jd0 P ih f fn fr fr.defers p h'
def KJ0 (P:Program) (ih:Task→Res) (f:FuncId) (fn:Func) (r:Res):Res :=
 match r with
 | .code e fr h=>match e with
  | .normal=>QH0 P ih f fn fr .none h
  | .ret=>QH0 P ih f fn fr .none h
  | .panic v=>QH0 P ih f fn fr (some v) h
  | _=>.none f .none
 | r=>r
def Jg0 (P:Program) (_E:Env) (ih:Task→Res) (f:FuncId) (args:List V) (h:Heap):Res :=
 match P.funcs[f]? with
 | .none=>.none f .none
 | some fn=>match fn.body with
  | .none=>match YE0 P fn args h with
   | some (v,h')=>.ret v h'
   | .none=>.none f .none
  | some body=>bif Nat.ble (List.len args) fn.ntmps then KJ0 P ih f fn (ih (.code body ⟨f,fn.ntmps,yg0 args 0 (zX0 (zZ0 fn.ntmps)),[],[],.none,.none,false⟩ h)) else .none f .none
def YD0 (f:FuncId) (r:Res):Res :=
 match r with
 | .code e fr h=>bif qb0 fr.marks&&qb0 fr.defers then (match e with
  | .normal=>.dret true h
  | .ret=>.dret true h
  | _=>.none f .none) else .none f .none
 | .none a b=>.none a b
 | _=>.none f .none
def QO0 (o:Oper):Bool :=
 match o.guard with
 | .none=>match o.op with
  | .call c=>match c.callee with
   | .builtin .recover=>c.args.isEmpty
   | _=>false
  | _=>false
 | some _=>false
def Xz0 (p:Option V):V :=
 match p with
 | .none=>.nili
 | some v=>v
def Ji0 (P:Program) (E:Env) (ih:Task→Res) (f:FuncId) (args:List V) (p:Option V) (h:Heap):Res :=
 match P.funcs[f]? with
 | .none=>.none f .none
 | some fn=>match fn.body with
  | some (.seq (.region _ ops false) rest)=>match ops.toList with
   | []=>.none f .none
   | o::l=>bif QO0 o&&qb0 fn.results.toList&&Nat.ble (List.len args) fn.ntmps then
    (match Fr.put ⟨f,fn.ntmps,yg0 args 0 (zX0 (zZ0 fn.ntmps)),[],[],.none,.none,false⟩ o.dst (Xz0 p) with
     | some fr1=>YD0 f (Qp0 ih rest (Zc0 P E ih ops.toList l fr1 h))
     | .none=>.none f .none)
    else .none f .none
  | _=>.none f .none
def qk1 (ih:Task→Res) (l:Nat) (body:Code) (r:Res):Res :=
 match r with
 | .code e fr h=>match e with
  | .normal=>match h.get l with
   | .loop st pend fn n tm ps a b d=>match st with
    | .ready=>ih (.code body fr (h.set l (.loop .busy pend fn n tm ps a b d)))
    | _=>.none l .none
   | _=>.none l .none
  | _=>.none l .none
 | r=>r
def Jl0 (ih:Task→Res) (l:Nat) (args:List V) (h:Heap):Res :=
 match h.get l with
 | .loop _ _ fn n tm ps assign body _=>match Jm0 ps n args tm with
  | .none=>.none l .none
  | some tm'=>endRound l (qk1 ih l body (ih (.code assign ⟨fn,n,tm',[],[],some l,.none,false⟩ h)))
 | _=>.none l .none
def ql1 (P:Program) (E:Env) (ih:Task→Res) (c:Code) (fr:Fr) (h:Heap):Res :=
 Code.rec (motive:=fun _=>Program→Env→(Task→Res)→Fr→Heap→Res)
  (fun _ _ _ fr h=>.code .normal fr h)
  (fun _ ops draw P E ih fr h=>Ql1 P E ih ops draw fr h)
  (fun a b _ _ _ _ ih fr h=>Qp0 ih b (ih (.code a fr h)))
  (fun c a b _ _ _ E ih fr h=>Jh0 E ih c a b fr h)
  (fun id b _ _ _ ih fr h=>Jf0 id (ih (.code b fr h)))
  (fun b _ _ _ ih fr h=>Qp0 ih (.loop b) (ih (.code b fr h)))
  (fun f params assign body _ _ P E ih fr h=>Jk0 P E ih f params assign body fr h)
  (fun id _ _ _ fr h=>.code (.exit id) fr h)
  (fun b _ _ _ ih fr h=>ih (.code b fr h))
  (fun _ _ _ _ fr h=>.code .normal fr h)
  (fun _ _ _ _ fr _=>.none fr.fn .none)
  (fun _ _ _ fr h=>.code .ret fr h)
  (fun _ _ _ _ fr _=>.none fr.fn .none) c P E ih fr h
def step (P:Program) (E:Env) (ih:Task→Res) (t:Task):Res :=
 Task.rec (motive:=fun _=>Program→Env→(Task→Res)→Res) (fun c fr h P E ih=>ql1 P E ih c fr h) (fun f args h P E ih=>Jg0 P E ih f args h) (fun l args h _ _ ih=>Jl0 ih l args h) (fun f args p h P E ih=>Ji0 P E ih f args p h) t P E ih
def run (P:Program) (E:Env) (n:Nat):Task→Res:=Nat.rec (fun _=>.none 0 .none) (fun _ ih=>step P E ih) n
theorem List.at_eq {α:Type} (l:List α) (i:Nat):List.at l i=l[i]?:=by
 induction l generalizing i with
 | nil=>rfl
 | cons x xs ih=>cases i with
  | zero=>rfl
  | succ k=>exact (ih k).trans (by simp)
theorem List.len_acc {α:Type} (l:List α) (n:Nat):List.rec (motive:=fun _=>Nat→Nat) (fun n=>n) (fun _ _ ih n=>ih (Nat.add n 1)) l n=n+l.length:=by
 induction l generalizing n with
 | nil=>rfl
 | cons x xs ih=>exact (ih (n+1)).trans (by simp;omega)
theorem List.len_eq {α:Type} (l:List α):List.len l=l.length:=(List.len_acc l 0).trans (Nat.zero_add _)
theorem List.dropN_eq {α:Type} (l:List α) (i:Nat):List.dropN l i=l.drop i:=by
 induction l generalizing i with
 | nil=>simp;rfl
 | cons x xs ih=>cases i with
  | zero=>rfl
  | succ k=>exact ih k
theorem List.takeN_eq {α:Type} (l:List α) (i:Nat):List.takeN l i=l.take i:=by
 induction l generalizing i with
 | nil=>simp;rfl
 | cons x xs ih=>cases i with
  | zero=>rfl
  | succ k=>exact congrArg (x::·) (ih k)
theorem List.app_eq {α:Type} (a b:List α):List.app a b=a++b:=by
 induction a with
 | nil=>rfl
 | cons x xs ih=>exact congrArg (x::·) ih
theorem List.setN_eq {α:Type} (y:α) (l:List α) (i:Nat):List.setN y l i=l.set i y:=by
 induction l generalizing i with
 | nil=>simp;rfl
 | cons x xs ih=>cases i with
  | zero=>rfl
  | succ k=>exact congrArg (x::·) (ih k)
theorem List.rep_eq {α:Type} (x:α) (n:Nat):List.rep x n=List.replicate n x:=by
 induction n with
 | zero=>rfl
 | succ k ih=>exact congrArg (x::·) ih
theorem yA0 {α β:Type} (f:α→Option β) (x:α) (l:List α):qc0 f (x::l)=match f x with
 | none=>none
 | some y=>match qc0 f l with
  | none=>none
  | some ys=>some (y::ys):=rfl
theorem KB1 {α β:Type} {f:α→Option β} {x:α} {l:List α} {r:List β} (h:qc0 f (x::l)=some r) :
 ∃ y ys,f x=some y∧qc0 f l=some ys∧r=y::ys:=by
 rw [yA0] at h
 split at h
 ·cases h
 ·rename_i y hy
  split at h
  ·cases h
  ·rename_i ys hys
   exact ⟨y,ys,hy,hys,(Option.some.inj h).symm⟩
theorem zH0 {α β:Type} {f:α→Option β} {l:List α} {r:List β} (h:qc0 f l=some r) :
 r.length=l.length∧∀ (i:Nat) (x:α),l[i]?=some x→∃ y,r[i]?=some y∧f x=some y:=by
 induction l generalizing r with
 | nil=>cases h;exact ⟨rfl,fun i x hx=>by simp at hx⟩
 | cons a l ih =>
  obtain ⟨y,ys,hy,hys,rfl⟩:=KB1 h
  obtain ⟨h1,h2⟩:=ih hys
  refine ⟨by simp [h1],fun i x hx=>?_⟩
  cases i with
  | zero=>simp at hx;subst hx;exact ⟨y,rfl,hy⟩
  | succ k=>simp at hx;simpa using h2 k x hx
theorem T.pick_even {α:Type} (k:Nat) (a b:Nat→α) (h:k%2=0):T.pick k a b=a (k/2):=by
 have e:Nat.beq (Nat.mod k 2) 0=true:=by rw [Nat.beq_eq];exact h
 unfold T.pick;rw [e];rfl
theorem T.pick_odd {α:Type} (k:Nat) (a b:Nat→α) (h:k%2≠0):T.pick k a b=b (k/2):=by
 have e:Nat.beq (Nat.mod k 2) 0=false:=by
  cases hb:Nat.beq (Nat.mod k 2) 0 with
  | false=>rfl
  | true=>rw [Nat.beq_eq] at hb;exact absurd hb h
 unfold T.pick;rw [e];rfl
theorem T.get_n_zero {α:Type} (d:α) (l:T α) (v:α) (r:T α):T.get d (.n l v r) 0=v:=rfl
theorem T.get_n_succ {α:Type} (d:α) (l:T α) (v:α) (r:T α) (k:Nat):T.get d (.n l v r) (k+1)=T.pick k (T.get d l) (T.get d r):=rfl
theorem T.one_zero {α:Type} (d x:α) (f:Nat):T.one d x (f+1) 0=.n .e x .e:=rfl
theorem T.one_succ {α:Type} (d x:α) (f k:Nat):T.one d x (f+1) (k+1)=T.pick k (fun m=>.n (T.one d x f m) d .e) (fun m=>.n .e d (T.one d x f m)):=rfl
theorem T.set_e {α:Type} (d x:α) (i:Nat):T.set d x .e i=T.one d x (i+1) i:=rfl
theorem T.set_n_zero {α:Type} (d x:α) (l:T α) (v:α) (r:T α):T.set d x (.n l v r) 0=.n l x r:=rfl
theorem T.set_n_succ {α:Type} (d x:α) (l:T α) (v:α) (r:T α) (k:Nat):T.set d x (.n l v r) (k+1)=T.pick k (fun m=>.n (T.set d x l m) v r) (fun m=>.n l v (T.set d x r m)):=rfl
theorem Xd0 {i j:Nat} (h:i≠j) (hm:i%2=j%2):i/2≠j/2:=by omega
theorem T.get_one {α:Type} (d x:α) (f i j:Nat) (hf:i<f):T.get d (T.one d x f i) j=if i=j then x else d:=by
 induction f generalizing i j with
 | zero=>omega
 | succ f ih =>
  cases i with
  | zero=>cases j with
   | zero=>rfl
   | succ k =>
    rw [T.one_zero,T.get_n_succ,if_neg (by omega)]
    by_cases hk:k%2=0
    ·rw [T.pick_even _ _ _ hk];rfl
    ·rw [T.pick_odd _ _ _ hk];rfl
  | succ i =>
   rw [T.one_succ]
   by_cases hi:i%2=0
   ·rw [T.pick_even _ _ _ hi]
    cases j with
    | zero=>rw [T.get_n_zero,if_neg (by omega)]
    | succ k =>
     rw [T.get_n_succ]
     by_cases hk:k%2=0
     ·rw [T.pick_even _ _ _ hk,ih _ _ (by omega)]
      by_cases e:i=k
      ·subst e;simp
      ·rw [if_neg (Xd0 e (by omega)),if_neg (by omega)]
     ·rw [T.pick_odd _ _ _ hk,if_neg (by omega)];rfl
   ·rw [T.pick_odd _ _ _ hi]
    cases j with
    | zero=>rw [T.get_n_zero,if_neg (by omega)]
    | succ k =>
     rw [T.get_n_succ]
     by_cases hk:k%2=0
     ·rw [T.pick_even _ _ _ hk,if_neg (by omega)];rfl
     ·rw [T.pick_odd _ _ _ hk,ih _ _ (by omega)]
      by_cases e:i=k
      ·subst e;simp
      ·rw [if_neg (Xd0 e (by omega)),if_neg (by omega)]
theorem T.get_set {α:Type} (d x:α) (t:T α) (i j:Nat):T.get d (T.set d x t i) j=if i=j then x else T.get d t j:=by
 induction t generalizing i j with
 | e=>rw [T.set_e,T.get_one _ _ _ _ _ (by omega)];rfl
 | n l v r ihl ihr =>
  cases i with
  | zero=>cases j with
   | zero=>rfl
   | succ k=>rw [T.set_n_zero,T.get_n_succ,if_neg (by omega)];rfl
  | succ i =>
   rw [T.set_n_succ]
   by_cases hi:i%2=0
   ·rw [T.pick_even _ _ _ hi]
    cases j with
    | zero=>rw [T.get_n_zero,if_neg (by omega)];rfl
    | succ k =>
     rw [T.get_n_succ,T.get_n_succ]
     by_cases hk:k%2=0
     ·rw [T.pick_even _ _ _ hk,T.pick_even _ _ _ hk,ihl]
      by_cases e:i=k
      ·subst e;simp
      ·rw [if_neg (Xd0 e (by omega)),if_neg (by omega)]
     ·rw [T.pick_odd _ _ _ hk,T.pick_odd _ _ _ hk,if_neg (by omega)]
   ·rw [T.pick_odd _ _ _ hi]
    cases j with
    | zero=>rw [T.get_n_zero,if_neg (by omega)];rfl
    | succ k =>
     rw [T.get_n_succ,T.get_n_succ]
     by_cases hk:k%2=0
     ·rw [T.pick_even _ _ _ hk,T.pick_even _ _ _ hk,if_neg (by omega)]
     ·rw [T.pick_odd _ _ _ hk,T.pick_odd _ _ _ hk,ihr]
      by_cases e:i=k
      ·subst e;simp
      ·rw [if_neg (Xd0 e (by omega)),if_neg (by omega)]
theorem Heap.get_set (h:Heap) (r q:Nat) (o:Obj):(h.set r o).get q=if r=q then o else h.get q:=T.get_set _ _ _ _ _
theorem Heap.n_set (h:Heap) (r:Nat) (o:Obj):(h.set r o).n=h.n:=rfl
theorem Heap.new_eq (h:Heap) (o:Obj):h.new o=⟨h.t.set .dead o h.n,h.n+1⟩:=by
 cases h with
 | mk t n=>cases n <;> rfl
theorem Heap.get_new (h:Heap) (q:Nat) (o:Obj):(h.new o).get q=if h.n=q then o else h.get q:=by
 rw [Heap.new_eq];exact T.get_set _ _ _ _ _
theorem Heap.n_new (h:Heap) (o:Obj):(h.new o).n=h.n+1:=by rw [Heap.new_eq]
theorem Xi0 (a b:Int):ile a b=true↔a≤b:=by
 cases a <;> cases b <;> simp [ile] <;> omega
theorem QM0 (a b:Int):ilt a b=true↔a<b:=by
 unfold ilt
 rw [Bool.not_eq_true',← Bool.not_eq_true,Xi0];omega
theorem ZF0 (a b:Int):ieq a b=true↔a=b:=by
 cases a <;> cases b <;> simp [ieq] <;> omega
theorem Xh0 (a b:Int):ile a b=decide (a≤b):=by
 rw [Bool.eq_iff_iff,Xi0];simp
theorem ZG0 (a b:Int):ilt a b=decide (a<b):=by
 rw [Bool.eq_iff_iff,QM0];simp
theorem QL0 (a b:Int):ieq a b=(a == b):=by
 rw [Bool.eq_iff_iff,ZF0];simp
theorem Qa0 (a b:IntKind):zh0 a b=true↔a=b:=by
 cases a <;> cases b <;> simp [zh0]
theorem Kr0 (a b:UInt8):zE0 a b=true↔a=b:=by
 unfold zE0
 rw [Nat.beq_eq]
 exact ⟨fun h=>UInt8.toNat_inj.1 h,fun h=>by rw [h]⟩
theorem Jp0 (a b:List UInt8):zC0 a b=true↔a=b:=by
 induction a generalizing b with
 | nil=>cases b <;> simp [zC0]
 | cons x xs ih =>
  cases b with
  | nil=>simp [zC0]
  | cons y ys =>
   show (bif zE0 x y then zC0 xs ys else false)=true↔_
   cases hb:zE0 x y with
   | true =>
    have:=(Kr0 x y).1 hb
    subst this
    simp [ih]
   | false =>
    have:x≠y:=fun e=>by rw [(Kr0 x y).2 e] at hb;cases hb
    simp [this]
theorem qy1 (k:IntKind) (n:Int) (h1:k.min≤n) (h2:n≤k.max):k.wrap n=n:=by
 cases k <;> simp [IntKind.wrap,IntKind.min,IntKind.max,IntKind.signed,IntKind.bits] at*<;> (try split) <;> omega
theorem qx1 (k:IntKind) (n:Int):Yk0 k n=k.wrap n:=by
 unfold Yk0
 cases h:(ile k.min n&&ile n k.max) with
 | false=>rfl
 | true =>
  rw [Bool.and_eq_true,Xi0,Xi0] at h
  exact (qy1 k n h.1 h.2).symm
theorem yn1 (f:Nat→Option V) (n:Nat):KW0 f n=f n:=by cases n <;> rfl
theorem yw0 (k:IntKind) (n:Int):jU0 k n=some (.int k n):=by
 cases n with
 | ofNat m=>exact yn1 (fun n=>some (.int k (.ofNat n))) m
 | negSucc m=>exact yn1 (fun n=>some (.int k (.negSucc n))) m
theorem Qj0 (k:IntKind) (n:Int):zU0 k n=some (.int k (k.wrap n)):=by
 unfold zU0;rw [yw0,qx1]
theorem YR0 (r:Nat) (l:List Nat):qB0 r l=true↔r∈l:=by
 induction l with
 | nil=>simp [qB0]
 | cons x xs ih =>
  unfold qB0
  cases h:Nat.beq x r with
  | true=>rw [Nat.beq_eq] at h;simp [h]
  | false =>
   have:¬ x=r:=fun e=>by rw [← Nat.beq_eq] at e;rw [e] at h;cases h
   simp [ih,Ne.symm this]
structure Gh where
 mu:Nat→Option (Nat×Nat×Nat)
 vr:Nat→Option Nat
 S:Nat→Nat→Option Value
def zA0 (E:Array MapEntry) (c:Nat):Nat→Option Value
 | 0=>some (.tuple #[.int .i64 (E.size:Int),.int .i64 (c:Int)])
 | i+1=>match E[i]? with
  | some e=>some (.tuple #[e.key,e.val,.int .i64 (e.born:Int)])
  | none=>none
def BornOk (E:Array MapEntry) (c:Nat):Prop:=(∀ (i:Nat) e,E[i]?=some e→e.born<c)∧∀ (i j:Nat) e e',E[i]?=some e→E[j]?=some e'→e.born=e'.born→i=j
inductive GR (S:Nat→Nat→Option Value):Value→V→Prop
 | int (k:IntKind) (n:Int):GR S (.int k n) (.int k n)
 | bool (b:Bool):GR S (.bool b) (.bool b)
 | str {s:ByteArray} {l:List UInt8} (h:s.data.toList=l):GR S (.string s) (.str l)
 | nilp:GR S (.pointer none) .nilp
 | nils:GR S (.slice none 0 0) .nils
 | nilm:GR S (.map none) .nilm
 | nilf:GR S .nilFunc .nilf
 | nili:GR S .nilIface .nili
 | func {f:FuncId} {a b:Array Value} {xs ys:List V} (ha:a.size=xs.length) (hb:b.size=ys.length)
  (h1:∀ (i:Nat) v x,a[i]?=some v→xs[i]?=some x→GR S v x) (h2:∀ (i:Nat) v x,b[i]?=some v→ys[i]?=some x→GR S v x):GR S (.func (.func f) a b) (.func (.func f) xs ys)
 | iface {t:TypeId} {v:Value} {x:V} (h:GR S v x):GR S (.iface t v) (.iface t x)
 | agg {cs:Array Value} {vs:List V} (hn:cs.size=vs.length) (h1:∀ (i:Nat) v,cs[i]?=some v→v.oneCell'=true)
  (h:∀ (i:Nat) v x,cs[i]?=some v→vs[i]?=some x→GR S v x):GR S (.agg cs) (.agg vs)
 | tup {cs:Array Value} {vs:List V} (hn:cs.size=vs.length)
  (h:∀ (i:Nat) v x,cs[i]?=some v→vs[i]?=some x→GR S v x):GR S (.tuple cs) (.tup vs)
 | gptr {b base off sz:Nat} {es:List V} (val:Nat→Nat→Value) (hsz:0<sz) (hc:∀ (i:Nat) e,es[i]?=some e→e.cells.length=sz∧e.flat=true)
  (hS:∀ (i:Nat) e (j:Nat) x,es[i]?=some e→e.cells[j]?=some x→S b (base+i*sz+j)=some (val i j)∧(val i j).oneCell'=true)
  (h:∀ (i:Nat) e (j:Nat) x,es[i]?=some e→e.cells[j]?=some x→GR S (val i j) x):GR S (.pointer (some ⟨b,base+off,none⟩)) (.gptr sz es off)
 | gsl {b off sz cap:Nat} {c:Option Nat} {es:List V} (val:Nat→Nat→Value) (hsz:0<sz) (hc:∀ (i:Nat) e,es[i]?=some e→e.cells.length=sz∧e.flat=true)
  (hS:∀ (i:Nat) e (j:Nat) x,es[i]?=some e→e.cells[j]?=some x→S b (off+i*sz+j)=some (val i j)∧(val i j).oneCell'=true)
  (hcap:∀ c',c=some c'→cap=c') (hle:es.length≤cap)
  (h:∀ (i:Nat) e (j:Nat) x,es[i]?=some e→e.cells[j]?=some x→GR S (val i j) x):GR S (.slice (some ⟨b,off,none⟩) es.length cap) (.gsl sz es c)
 | gmap {b c:Nat} {E:Array MapEntry} {ks vs:List V} (hS:∀ o v,zA0 E c o=some v→S b o=some v) (hk:E.size=ks.length) (hv:E.size=vs.length)
  (h1:∀ (i:Nat) e x,E[i]?=some e→ks[i]?=some x→GR S e.key x) (h2:∀ (i:Nat) e x,E[i]?=some e→vs[i]?=some x→GR S e.val x):GR S (.map (some b)) (.gmap ks vs)
 | oslN {a:Option Addr} {sz:Nat}:GR S (.slice a 0 0) (.osl sz [])
 | oslS {v:Value} {sz:Nat} {es:List V} (h:GR S v (.gsl sz es none)):GR S v (.osl sz es)
theorem GR.mono {S S':Nat→Nat→Option Value} (hS:∀ b o v,S b o=some v→S' b o=some v) {v:Value} {x:V} (h:GR S v x):GR S' v x:=by
 induction h with
 | int k n=>exact .int k n
 | bool b=>exact .bool b
 | str h=>exact .str h
 | nilp=>exact .nilp
 | nils=>exact .nils
 | nilm=>exact .nilm
 | nilf=>exact .nilf
 | nili=>exact .nili
 | func ha hb _ _ i1 i2=>exact .func ha hb i1 i2
 | iface _ ih=>exact .iface ih
 | agg hn h1 _ ih=>exact .agg hn h1 ih
 | tup hn _ ih=>exact .tup hn ih
 | gptr val hsz hc hs _ ih=>exact .gptr val hsz hc (fun i e j x he hx=>⟨hS _ _ _ (hs i e j x he hx).1,(hs i e j x he hx).2⟩) ih
 | gsl val hsz hc hs hcap hle _ ih=>exact .gsl val hsz hc (fun i e j x he hx=>⟨hS _ _ _ (hs i e j x he hx).1,(hs i e j x he hx).2⟩) hcap hle ih
 | gmap hs hk hv _ _ i1 i2=>exact .gmap (fun o v e=>hS _ _ _ (hs o v e)) hk hv i1 i2
 | oslN=>exact .oslN
 | oslS _ ih=>exact .oslS ih
theorem GR.fn {S:Nat→Nat→Option Value} (f:FuncId):GR S (.func (.func f) #[] #[]) (.func (.func f) [] []):=.func rfl rfl (fun i v x a=>by simp at a) (fun i v x a=>by simp at a)
inductive R (g:Gh):Value→V→Prop
 | gnd {v:Value} {x:V} (h:GR g.S v x):R g v x
 | ptr {a:Addr} {r ver off ver':Nat} (hv:g.vr r=some ver') (hle:ver≤ver')
  (h:ver=ver'→∃ k sz,g.mu r=some (a.block,k,sz)∧a.off=off∧a.spot=none):R g (.pointer (some a)) (.ptr r ver off)
 | sl {a:Addr} {r ver o n ver' cap:Nat} {c:Option Nat} (hv:g.vr r=some ver') (hle:ver≤ver') (hn:n≤cap) (hc:∀ c',c=some c'→cap=c')
  (h:ver=ver'→∃ k sz,g.mu r=some (a.block,k,sz)∧(0<cap→a.off=o*sz)∧a.spot=none∧o+cap≤k∧(c=none→o+cap=k)):R g (.slice (some a) n cap) (.sl r ver o n c)
 | map {b r:Nat} {k:Nat×Nat} (hv:g.vr r=none) (h:g.mu r=some (b,k)):R g (.map (some b)) (.map r)
 | iter {b r:Nat} {k:Nat×Nat} (hv:g.vr r=none) (h:g.mu r=some (b,k)):R g (.pointer (some ⟨b,0,none⟩)) (.iter r)
 | func {f:Fn} {a b:Array Value} {xs ys:List V} (hf:∀ l,f≠.yield l) (ha:a.size=xs.length) (hb:b.size=ys.length)
  (h1:∀ (i:Nat) v x,a[i]?=some v→xs[i]?=some x→R g v x) (h2:∀ (i:Nat) v x,b[i]?=some v→ys[i]?=some x→R g v x):R g (.func f a b) (.func f xs ys)
 | yield {b l:Nat} {k:Nat×Nat} (hv:g.vr l=none) (h:g.mu l=some (b,k)):R g (.func (.yield b) #[] #[]) (.func (.yield l) [] [])
 | iface {t:TypeId} {v:Value} {x:V} (h:R g v x):R g (.iface t v) (.iface t x)
 | agg {cs:Array Value} {vs:List V} (hn:cs.size=vs.length) (h1:∀ (i:Nat) v,cs[i]?=some v→v.oneCell'=true)
  (h:∀ (i:Nat) v x,cs[i]?=some v→vs[i]?=some x→R g v x):R g (.agg cs) (.agg vs)
 | tup {cs:Array Value} {vs:List V} (hn:cs.size=vs.length)
  (h:∀ (i:Nat) v x,cs[i]?=some v→vs[i]?=some x→R g v x):R g (.tuple cs) (.tup vs)
 | any {v:Value} (h:v.oneCell'=true):R g v .any
 | imod {k:IntKind} {N m r:Nat} (h1:N<256) (h2:N%m=r):R g (.int k (N:Int)) (.imod k m r)
structure Ext (g g':Gh):Prop where
 S:∀ b o v,g.S b o=some v→g'.S b o=some v
 row:∀ r v,g.vr r=some v→∃ v',g'.vr r=some v'∧v≤v'∧(v=v'→g'.mu r=g.mu r)
 obj:∀ r x,g.vr r=none→g.mu r=some x→g'.vr r=none∧g'.mu r=some x
theorem Ext.refl (g:Gh):Ext g g:=⟨fun _ _ _ h=>h,fun _ v h=>⟨v,h,Nat.le_refl _,fun _=>rfl⟩,fun _ _ h h'=>⟨h,h'⟩⟩
theorem Ext.trans {a b c:Gh} (h:Ext a b) (k:Ext b c):Ext a c :=
 ⟨fun _ _ _ e=>k.S _ _ _ (h.S _ _ _ e),fun r v e=>by
  obtain ⟨v',e',l,m⟩:=h.row r v e
  obtain ⟨v'',e'',l',m'⟩:=k.row r v' e'
  exact ⟨v'',e'',Nat.le_trans l l',fun hv=>by
   have e1:v=v':=by omega
   have e2:v'=v'':=by omega
   rw [m' e2,m e1]⟩,fun r x e e'=>let ⟨p,q⟩:=h.obj r x e e';k.obj r x p q⟩
theorem R.mono {g g':Gh} (hx:Ext g g') {v:Value} {x:V} (h:R g v x):R g' v x:=by
 induction h with
 | gnd h=>exact .gnd (h.mono hx.S)
 | ptr hv hle h =>
  obtain ⟨v',e',l,m⟩:=hx.row _ _ hv
  refine .ptr e' (Nat.le_trans hle l) fun e=>?_
  have e1:=Nat.le_antisymm hle (by omega)
  have e2:=Nat.le_antisymm l (by omega)
  rw [m e2];exact h e1
 | sl hv hle hn hc h =>
  obtain ⟨v',e',l,m⟩:=hx.row _ _ hv
  refine .sl e' (Nat.le_trans hle l) hn hc fun e=>?_
  have e1:=Nat.le_antisymm hle (by omega)
  have e2:=Nat.le_antisymm l (by omega)
  rw [m e2];exact h e1
 | map hv h=>obtain ⟨a,b⟩:=hx.obj _ _ hv h;exact .map a b
 | iter hv h=>obtain ⟨a,b⟩:=hx.obj _ _ hv h;exact .iter a b
 | func hf ha hb _ _ i1 i2=>exact .func hf ha hb i1 i2
 | yield hv h=>obtain ⟨a,b⟩:=hx.obj _ _ hv h;exact .yield a b
 | iface _ ih=>exact .iface ih
 | agg hn h1 _ ih=>exact .agg hn h1 ih
 | tup hn _ ih=>exact .tup hn ih
 | any h=>exact .any h
 | imod h1 h2=>exact .imod h1 h2
section inv
variable {g:Gh} {v:Value}
theorem R.int_inv {k:IntKind} {n:Int} (h:R g v (.int k n)):v=.int k n:=by cases h with | gnd h=>cases h;rfl
theorem R.bool_inv {b:Bool} (h:R g v (.bool b)):v=.bool b:=by cases h with | gnd h=>cases h;rfl
theorem R.str_inv {l:List UInt8} (h:R g v (.str l)):∃ s:ByteArray,v=.string s∧s.data.toList=l:=by
 cases h with | gnd h=>cases h with | str h=>exact ⟨_,rfl,h⟩
theorem R.nilp_inv (h:R g v .nilp):v=.pointer none:=by cases h with | gnd h=>cases h;rfl
theorem R.nils_inv (h:R g v .nils):v=.slice none 0 0:=by cases h with | gnd h=>cases h;rfl
theorem R.nilm_inv (h:R g v .nilm):v=.map none:=by cases h with | gnd h=>cases h;rfl
theorem R.nilf_inv (h:R g v .nilf):v=.nilFunc:=by cases h with | gnd h=>cases h;rfl
theorem R.nili_inv (h:R g v .nili):v=.nilIface:=by cases h with | gnd h=>cases h;rfl
theorem R.ptr_inv {r ver off:Nat} (h:R g v (.ptr r ver off)):∃ a ver',v=.pointer (some a)∧g.vr r=some ver'∧ver≤ver' ∧
 (ver=ver'→∃ k sz,g.mu r=some (a.block,k,sz)∧a.off=off∧a.spot=none):=by
 cases h with
 | gnd h=>cases h
 | ptr hv hle h=>exact ⟨_,_,rfl,hv,hle,h⟩
theorem R.sl_inv {r ver o n:Nat} {c:Option Nat} (h:R g v (.sl r ver o n c)):∃ a cap ver',v=.slice (some a) n cap∧g.vr r=some ver'∧ver≤ver'∧n≤cap∧(∀ c',c=some c'→cap=c') ∧
 (ver=ver'→∃ k sz,g.mu r=some (a.block,k,sz)∧(0<cap→a.off=o*sz)∧a.spot=none∧o+cap≤k∧(c=none→o+cap=k)):=by
 cases h with
 | gnd h=>cases h
 | sl hv hle hn hc h=>exact ⟨_,_,_,rfl,hv,hle,hn,hc,h⟩
theorem R.map_inv {r:Nat} (h:R g v (.map r)):∃ b k,v=.map (some b)∧g.vr r=none∧g.mu r=some (b,k):=by
 cases h with
 | gnd h=>cases h
 | map hv h=>exact ⟨_,_,rfl,hv,h⟩
theorem R.iter_inv {r:Nat} (h:R g v (.iter r)):∃ b k,v=.pointer (some ⟨b,0,none⟩)∧g.vr r=none∧g.mu r=some (b,k):=by
 cases h with
 | gnd h=>cases h
 | iter hv h=>exact ⟨_,_,rfl,hv,h⟩
theorem R.iface_inv {t:TypeId} {x:V} (h:R g v (.iface t x)):∃ y,v=.iface t y∧R g y x:=by
 cases h with
 | gnd h=>cases h with | iface h=>exact ⟨_,rfl,.gnd h⟩
 | iface h=>exact ⟨_,rfl,h⟩
theorem R.agg_inv {vs:List V} (h:R g v (.agg vs)):∃ cs,v=.agg cs∧cs.size=vs.length∧(∀ (i:Nat) v,cs[i]?=some v→v.oneCell'=true)∧∀ (i:Nat) v x,cs[i]?=some v→vs[i]?=some x→R g v x:=by
 cases h with
 | gnd h=>cases h with | agg hn h1 h=>exact ⟨_,rfl,hn,h1,fun i v x a b=>.gnd (h i v x a b)⟩
 | agg hn h1 h=>exact ⟨_,rfl,hn,h1,h⟩
theorem R.tup_inv {vs:List V} (h:R g v (.tup vs)):∃ cs,v=.tuple cs∧cs.size=vs.length∧∀ (i:Nat) v x,cs[i]?=some v→vs[i]?=some x→R g v x:=by
 cases h with
 | gnd h=>cases h with | tup hn h=>exact ⟨_,rfl,hn,fun i v x a b=>.gnd (h i v x a b)⟩
 | tup hn h=>exact ⟨_,rfl,hn,h⟩
theorem GR.osl_inv {S:Nat→Nat→Option Value} {sz:Nat} {es:List V} (h:GR S v (.osl sz es)):(∃ a,v=.slice a 0 0∧es=[])∨GR S v (.gsl sz es none):=by
 cases h with
 | oslN=>exact .inl ⟨_,rfl,rfl⟩
 | oslS h=>exact .inr h
theorem R.osl_inv {sz:Nat} {es:List V} (h:R g v (.osl sz es)):(∃ a,v=.slice a 0 0∧es=[])∨GR g.S v (.gsl sz es none):=by cases h with | gnd h=>exact h.osl_inv
theorem R.gsl_inv {sz:Nat} {es:List V} {c:Option Nat} (h:R g v (.gsl sz es c)):GR g.S v (.gsl sz es c):=by cases h with | gnd h=>exact h
theorem R.gptr_inv {sz off:Nat} {es:List V} (h:R g v (.gptr sz es off)):GR g.S v (.gptr sz es off):=by cases h with | gnd h=>exact h
theorem R.gmap_inv {ks vs:List V} (h:R g v (.gmap ks vs)):GR g.S v (.gmap ks vs):=by cases h with | gnd h=>exact h
theorem R.any_inv (h:R g v .any):v.oneCell'=true:=by
 cases h with
 | gnd h=>cases h
 | any h=>exact h
theorem R.imod_inv {k:IntKind} {m r:Nat} (h:R g v (.imod k m r)):∃ N:Nat,v=.int k (N:Int)∧N<256∧N%m=r:=by
 cases h with
 | gnd h=>cases h
 | imod h1 h2=>exact ⟨_,rfl,h1,h2⟩
theorem R.fsl_inv {ty sz p:Nat} {es:List V} {c:Option Nat} (h:R g v (.fsl ty sz p es c)):False:=by
 cases h with
 | gnd h=>cases h
theorem R.func_inv {f:Fn} {xs ys:List V} (hf:∀ l,f≠.yield l) (h:R g v (.func f xs ys)):∃ a b,v=.func f a b∧a.size=xs.length∧b.size=ys.length ∧
 (∀ (i:Nat) v x,a[i]?=some v→xs[i]?=some x→R g v x)∧(∀ (i:Nat) v x,b[i]?=some v→ys[i]?=some x→R g v x):=by
 cases h with
 | gnd h=>cases h with | func ha hb h1 h2=>exact ⟨_,_,rfl,ha,hb,fun i v x p q=>.gnd (h1 i v x p q),fun i v x p q=>.gnd (h2 i v x p q)⟩
 | func _ ha hb h1 h2=>exact ⟨_,_,rfl,ha,hb,h1,h2⟩
 | yield hv h=>exact absurd rfl (hf _)
theorem R.yield_inv {l:Nat} {xs ys:List V} (h:R g v (.func (.yield l) xs ys)):∃ b k,v=.func (.yield b) #[] #[]∧xs=[]∧ys=[]∧g.vr l=none∧g.mu l=some (b,k):=by
 cases h with
 | gnd h=>cases h
 | func hf=>exact absurd rfl (hf _)
 | yield hv h=>exact ⟨_,_,rfl,rfl,rfl,hv,h⟩
end inv
def Rs' (g:Gh) (a:Array Value) (l:List V):Prop:=a.size=l.length∧∀ (i:Nat) v x,a[i]?=some v→l[i]?=some x→R g v x
theorem Rs'.mono {g g':Gh} (hx:Ext g g') {a:Array Value} {l:List V} (h:Rs' g a l):Rs' g' a l:=⟨h.1,fun i v x p q=>(h.2 i v x p q).mono hx⟩
theorem zy0 {α:Type} (a:Array α) (i:Nat) (h:i<a.size):∃ v,a[i]?=some v:=⟨a[i],by simp [h]⟩
theorem qr0 {α:Type} (a:List α) (i:Nat) (h:i<a.length):∃ v,a[i]?=some v:=⟨a[i],by simp [h]⟩
theorem qd0 {α:Type} {a:List α} {i:Nat} {v:α} (h:a[i]?=some v):i<a.length:=by
 rcases Nat.lt_or_ge i a.length with h' | h'
 ·exact h'
 ·rw [List.getElem?_eq_none h'] at h;cases h
theorem yS0 {α:Type} {a:Array α} {i:Nat} {v:α} (h:a[i]?=some v):i<a.size:=by
 rcases Nat.lt_or_ge i a.size with h' | h'
 ·exact h'
 ·rw [Array.getElem?_eq_none h'] at h;cases h
theorem Rs'.at {g:Gh} {a:Array Value} {l:List V} (h:Rs' g a l) {i:Nat} {x:V} (hx:l[i]?=some x):∃ v,a[i]?=some v∧R g v x:=by
 obtain ⟨v,hv⟩:=zy0 a i (by rw [h.1];exact qd0 hx)
 exact ⟨v,hv,h.2 i v x hv hx⟩
theorem R.cells {g:Gh} {v:Value} {x:V} (h:R g v x) (hf:x.flat=true):Rs' g v.cells x.cells∧∀ (i:Nat) u,v.cells[i]?=some u→u.oneCell'=true:=by
 have one:v.oneCell'=true→v.cells=#[v]→x.cells=[x]→Rs' g v.cells x.cells∧∀ (i:Nat) u,v.cells[i]?=some u→u.oneCell'=true:=by
  intro h1 h2 h3
  rw [h2,h3]
  refine ⟨⟨rfl,fun i v' x' hv hx=>?_⟩,fun i u hu=>?_⟩
  ·cases i with
   | zero=>simp at hv hx;subst hv;subst hx;exact h
   | succ k=>simp at hv
  ·cases i with
   | zero=>simp at hu;subst hu;exact h1
   | succ k=>simp at hu
 cases x with
 | agg vs =>
  obtain ⟨cs,rfl,hn,h1,h⟩:=h.agg_inv
  exact ⟨⟨hn,h⟩,h1⟩
 | tup vs=>cases hf
 | fsl=>cases hf
 | int k n=>have:=h.int_inv;subst this;exact one rfl rfl rfl
 | bool b=>have:=h.bool_inv;subst this;exact one rfl rfl rfl
 | str l=>obtain ⟨s,rfl,_⟩:=h.str_inv;exact one rfl rfl rfl
 | nilp=>have:=h.nilp_inv;subst this;exact one rfl rfl rfl
 | nils=>have:=h.nils_inv;subst this;exact one rfl rfl rfl
 | nilm=>have:=h.nilm_inv;subst this;exact one rfl rfl rfl
 | nilf=>have:=h.nilf_inv;subst this;exact one rfl rfl rfl
 | nili=>have:=h.nili_inv;subst this;exact one rfl rfl rfl
 | ptr r ver off=>obtain ⟨a,_,rfl,_⟩:=h.ptr_inv;exact one rfl rfl rfl
 | sl r ver o n c=>obtain ⟨a,_,_,rfl,_⟩:=h.sl_inv;exact one rfl rfl rfl
 | map r=>obtain ⟨b,_,rfl,_⟩:=h.map_inv;exact one rfl rfl rfl
 | iter r=>obtain ⟨b,_,rfl,_⟩:=h.iter_inv;exact one rfl rfl rfl
 | gptr sz es off=>have h':=h.gptr_inv;cases h';exact one rfl rfl rfl
 | gsl sz es c=>have h':=h.gsl_inv;cases h';exact one rfl rfl rfl
 | gmap ks vs=>have h':=h.gmap_inv;cases h';exact one rfl rfl rfl
 | osl sz es =>
  rcases h.osl_inv with ⟨_,rfl,_⟩ | h'
  ·exact one rfl rfl rfl
  ·cases h';exact one rfl rfl rfl
 | iface t y=>obtain ⟨y',rfl,_⟩:=h.iface_inv;exact one rfl rfl rfl
 | imod k m r=>obtain ⟨N,rfl,_⟩:=h.imod_inv;exact one rfl rfl rfl
 | any =>
  have h1:=h.any_inv
  refine one h1 ?_ rfl
  cases v <;> first | rfl | (simp [Value.oneCell'] at h1)
 | func f xs ys =>
  cases f with
  | yield l=>obtain ⟨b,k,rfl,_⟩:=h.yield_inv;exact one rfl rfl rfl
  | func f=>obtain ⟨a,b,rfl,_⟩:=h.func_inv (fun l=>by simp);exact one rfl rfl rfl
  | method f=>obtain ⟨a,b,rfl,_⟩:=h.func_inv (fun l=>by simp);exact one rfl rfl rfl
  | methodOf t f=>obtain ⟨a,b,rfl,_⟩:=h.func_inv (fun l=>by simp);exact one rfl rfl rfl
  | via t p f q=>obtain ⟨a,b,rfl,_⟩:=h.func_inv (fun l=>by simp);exact one rfl rfl rfl
structure RowOk (g:Gh) (w:World) (b k sz ty pub:Nat) (cap:Option Nat) (es:List V) (C:Array Value) (fr:Nat×Nat):Prop where
 at_:w.heap[b]?=some (.cells C ty fr)
 csize:C.size=k*sz
 pos:0<sz
 fits:es.length≤k
 pubs:pub≤es.length
 caps:∀ c,cap=some c→k=c
 elems:∀ (i:Nat) e,es[i]?=some e→e.cells.length=sz∧e.flat=true
 cells:∀ (i:Nat) e (j:Nat) x,es[i]?=some e→e.cells[j]?=some x→∃ v,C[i*sz+j]?=some v∧v.oneCell'=true∧R g v x
 shut:∀ o v,g.S b o=some v→o<pub*sz
 ice:fr.1=fr.2∨(fr.1=0∧fr.2≤pub*sz)
def ObjOk (g:Gh) (w:World) (x:Nat×Nat×Nat) (o:Obj):Prop :=
 match o with
 | .row _ ty sz pub cap es=>x.2.2=sz∧∃ C fr,RowOk g w x.1 x.2.1 sz ty pub cap es C fr
 | .rowS _ ty sz pub l y=>x.2.2=sz∧∃ C fr,RowOk g w x.1 x.2.1 sz ty pub none (l++[y]) C fr
 | .map es=>(∀ o v,g.S x.1 o≠some v)∧∃ E clock,w.heap[x.1]?=some (.map E clock)∧E.size=es.length∧(∀ (i:Nat) e p,E[i]?=some e→es[i]?=some p→R g e.key p.1∧R g e.val p.2)∧BornOk E clock
 | .miter left cur=>(left=[]∧cur=none∧∃ since seen stepped,w.heap[x.1]?=some (.mapIter none since seen stepped)) ∨
  ∃ m E c since seen stepped,w.heap[x.1]?=some (.mapIter (some m) since seen stepped)∧(∀ o v,zA0 E c o=some v→g.S m o=some v)∧BornOk E since∧BornOk E stepped∧BornOk E c ∧
   (E.toList.filter fun e=>!seen.contains e.born).length=left.length∧(∀ (i:Nat) e p,(E.toList.filter fun e=>!seen.contains e.born)[i]?=some e→left[i]?=some p→R g e.key p.1∧R g e.val p.2) ∧
   ∀ p,cur=some p→stepped=c∧∃ st e,seen.back?=some st∧E.find? (·.born == st)=some e∧R g e.key p.1∧R g e.val p.2
 | .siter s pos=>∃ ba:ByteArray,w.heap[x.1]?=some (.stringIter ba pos)∧ba.data.toList=s
 | .loop st pend fn n tm ps a b d=>(∀ i,n≤i→tm.get undef i=undef∨tm.get undef i=qz0)∧∃ L:Loop,w.heap[x.1]?=some (.loop L)∧L.state=st∧L.pending=pend∧L.fn=fn∧L.tmps.size=n∧(∀ (i:Nat) v,L.tmps[i]?=some v→tm.get undef i=qz0∨R g v (tm.get undef i)) ∧
  L.params.toList=ps∧L.assign=a∧L.body=b∧g.vr d=none∧∃ k,g.mu d=some (L.defers,k)
 | .defs=>w.heap[x.1]?=some (.deferred (some []))
 | .dead=>True
def Zo0 (C:Array Value) (o:Nat):Option Value :=
 match C[o]? with
 | some v=>if v.oneCell'=true then some v else none
 | none=>none
theorem Zp0 {C:Array Value} {o:Nat} {v:Value} (hv:C[o]?=some v) (h1:v.oneCell'=true):Zo0 C o=some v:=by
 unfold Zo0;rw [hv];simp [h1]
theorem jM0 {C:Array Value} {o:Nat} {v:Value} (h:Zo0 C o=some v):C[o]?=some v∧v.oneCell'=true:=by
 unfold Zo0 at h
 split at h
 ·rename_i u hu
  split at h
  ·cases h;exact ⟨hu,by assumption⟩
  ·cases h
 ·cases h
def look (w:World) (b o:Nat):Option Value :=
 match w.heap[b]? with
 | some (.cells C _ _)=>Zo0 C o
 | some (.map E c)=>zA0 E c o
 | _=>none
theorem Kx1 {E:Array MapEntry} {c o:Nat} {v:Value} (h:zA0 E c o=some v):v.oneCell'=false:=by
 cases o with
 | zero=>cases h;rfl
 | succ i =>
  simp only [zA0] at h
  cases he:E[i]? with
  | none=>rw [he] at h;cases h
  | some e=>rw [he] at h;cases h;rfl
theorem ZO0 {w:World} {b o:Nat} {v:Value} {C:Array Value} {T:TypeId} {fr:Nat×Nat} (h:w.heap[b]?=some (.cells C T fr)) (hv:C[o]?=some v) (h1:v.oneCell'=true):look w b o=some v:=by
 unfold look;rw [h];exact Zp0 hv h1
theorem YP0 {w:World} {b o:Nat} {v:Value} {C:Array Value} {T:TypeId} {fr:Nat×Nat} (h:w.heap[b]?=some (.cells C T fr)) (hv:look w b o=some v):C[o]?=some v∧v.oneCell'=true:=by
 unfold look at hv;rw [h] at hv
 exact jM0 hv
theorem Kl1 {w:World} {b o:Nat} {v:Value} (h:look w b o=some v) (h1:v.oneCell'=true):∃ C T fr,w.heap[b]?=some (.cells C T fr)∧C[o]?=some v:=by
 unfold look at h
 split at h
 ·rename_i C T fr e
  exact ⟨C,T,fr,e,(jM0 h).1⟩
 ·rw [Kx1 h] at h1;cases h1
 ·cases h
theorem Gs0 {w:World} {b o:Nat} {E:Array MapEntry} {c:Nat} (h:w.heap[b]?=some (.map E c)):look w b o=zA0 E c o:=by
 unfold look;rw [h]
theorem je1 {w:World} {b o:Nat} {v:Value} (h:look w b o=some v):b<w.heap.size:=by
 rcases Nat.lt_or_ge b w.heap.size with h' | h'
 ·exact h'
 ·unfold look at h
  rw [Array.getElem?_eq_none h'] at h;cases h
theorem jd1 {w:World} {b o:Nat} {v:Value} (h:look w b o=some v) (h1:v.oneCell'=true):w.cell? ⟨b,o,none⟩=some v:=by
 obtain ⟨C,T,fr,e,hu⟩:=Kl1 h h1
 unfold World.cell?;simp [e,hu]
theorem Gr0 {w w':World} {b o:Nat} {v:Value} (hh:w'.heap[b]?=w.heap[b]?) (h:look w b o=some v):look w' b o=some v:=by
 unfold look at *;rw [hh];exact h
theorem Gt0 {w:World} {b o:Nat} {v:Value} (h:w.cell? ⟨b,o,none⟩=some v) (h1:v.oneCell'=true):look w b o=some v:=by
 unfold World.cell? at h
 split at h
 ·rename_i C T fr e
  simp at h
  exact ZO0 e h h1
 ·cases h
abbrev Ns:=Nat→Prop
def lo (n:Nat):Ns:=fun b=>b<n
structure Under (B:Ns) (w w':World):Prop where
 os:w'.os=w.os
 tape:w'.tape=w.tape
 output:w'.output=w.output
 size:w.heap.size≤w'.heap.size
 block:∀ k,B k→w'.heap[k]?=w.heap[k]?
theorem Under.refl (B:Ns) (w:World):Under B w w:=⟨rfl,rfl,rfl,Nat.le_refl _,fun _ _=>rfl⟩
theorem Under.trans {B:Ns} {a b c:World} (h:Under B a b) (k:Under B b c):Under B a c :=
 ⟨k.os.trans h.os,k.tape.trans h.tape,k.output.trans h.output,Nat.le_trans h.size k.size,fun i hi=>(k.block i hi).trans (h.block i hi)⟩
theorem Under.mono {B B':Ns} {w w':World} (h:Under B w w') (hB:∀ b,B' b→B b):Under B' w w':=⟨h.os,h.tape,h.output,h.size,fun k hk=>h.block k (hB k hk)⟩
theorem Under.below {n:Nat} {w w':World} (h:Under (lo n) w w'):Below n w w':=⟨h.os,h.tape,h.output,h.size,h.block⟩
structure W (B:Ns) (w0:World) (g:Gh) (h:Heap) (w:World):Prop where
 low:Under B w0 w
 base:∀ b,B b→b<w.heap.size
 shut:∀ b o v,g.S b o=some v→look w b o=some v
 dom:∀ r,r<h.n→∃ x,g.mu r=some x
 out:∀ r,h.n≤r→g.mu r=none∧h.get r=.dead
 ver:∀ r,g.vr r=match h.get r with | .row v _ _ _ _ _=>some v | .rowS v _ _ _ _ _=>some v | _=>none
 obj:∀ r x,g.mu r=some x→ObjOk g w x (h.get r)
 inj:∀ r r' x x',g.mu r=some x→g.mu r'=some x'→x.1=x'.1→r=r'
 high:∀ r x,g.mu r=some x→¬ B x.1∧x.1<w.heap.size
theorem JZ0 {w:World} {b c:Nat} {E:Array MapEntry} (h:∀ o v,zA0 E c o=some v→look w b o=some v):w.heap[b]?=some (.map E c):=by
 have h0:=h 0 _ rfl
 cases hb:w.heap[b]? with
 | none=>unfold look at h0;rw [hb] at h0;cases h0
 | some x =>
  cases x with
  | cells C T fr=>have:=(YP0 hb h0).2;cases this
  | map E' c' =>
   rw [Gs0 hb] at h0
   simp only [zA0,Option.some.injEq,Value.tuple.injEq] at h0
   have hn:E'.size=E.size∧c'=c:=by simp at h0;omega
   obtain ⟨hn,rfl⟩:=hn
   have he:E'=E:=by
    refine Array.ext hn fun i hi hi'=>?_
    have h1:=h (i+1) (.tuple #[E[i].key,E[i].val,.int .i64 (E[i].born:Int)]) (by simp only [zA0,Array.getElem?_eq_getElem hi'])
    rw [Gs0 hb] at h1
    simp only [zA0,Array.getElem?_eq_getElem hi,Option.some.injEq,Value.tuple.injEq] at h1
    have h2:E'[i].key=E[i].key∧E'[i].val=E[i].val∧E'[i].born=E[i].born:=by
     simp at h1;exact ⟨h1.1,h1.2.1,by omega⟩
    revert h2
    generalize E'[i]=x
    generalize E[i]=y
    intro h2
    cases x;cases y
    simp only at h2
    rw [h2.1,h2.2.1,h2.2.2]
   rw [he]
  | _=>unfold look at h0;rw [hb] at h0;cases h0
theorem Yy0 {w:World} {b o:Nat} {v:Value} {C:Array Value} {T:TypeId} {fr:Nat×Nat} (h:w.heap[b]?=some (.cells C T fr)) (hv:C[o]?=some v):w.cell? ⟨b,o,none⟩=some v:=by
 unfold World.cell?;simp [h,hv]
theorem zJ0 {w:World} {b:Nat} {o:Go.Obj} (h:w.heap[b]?=some o):b<w.heap.size:=yS0 h
theorem ObjOk.mono {g g':Gh} {w w':World} {x:Nat×Nat×Nat} {o:Obj} (h:ObjOk g w x o) (hx:Ext g g') (hw:w'.heap[x.1]?=w.heap[x.1]?)
 (hS:∀ o v,g'.S x.1 o=some v→g.S x.1 o=some v):ObjOk g' w' x o:=by
 have row:∀ {k sz ty pub cap es C fr},RowOk g w x.1 k sz ty pub cap es C fr→RowOk g' w' x.1 k sz ty pub cap es C fr:=fun hr =>
  ⟨hw.trans hr.at_,hr.csize,hr.pos,hr.fits,hr.pubs,hr.caps,hr.elems,
   fun i e j y he hy=>(match hr.cells i e j y he hy with | ⟨v,a,b,c⟩=>⟨v,a,b,c.mono hx⟩),fun o v hv=>hr.shut o v (hS o v hv),hr.ice⟩
 cases o with
 | row ver ty sz pub cap es =>
  obtain ⟨e,C,fr,hr⟩:=h
  exact ⟨e,C,fr,row hr⟩
 | rowS ver ty sz pub l y =>
  obtain ⟨e,C,fr,hr⟩:=h
  exact ⟨e,C,fr,row hr⟩
 | map es =>
  obtain ⟨h0,E,clock,h1,h2,h3,h4⟩:=h
  exact ⟨fun o v e=>h0 o v (hS o v e),E,clock,hw.trans h1,h2,fun i e p a b=>⟨(h3 i e p a b).1.mono hx,(h3 i e p a b).2.mono hx⟩,h4⟩
 | miter left cur =>
  rcases h with ⟨e,ec,s,n,t,h1⟩ | ⟨m,E,c,s,n,t,h1,h2,h3,h4,h5,h6,h7,h8⟩
  ·exact .inl ⟨e,ec,s,n,t,hw.trans h1⟩
  ·exact .inr ⟨m,E,c,s,n,t,hw.trans h1,fun o v e=>hx.S _ _ _ (h2 o v e),h3,h4,h5,h6,fun i e p a b=>⟨(h7 i e p a b).1.mono hx,(h7 i e p a b).2.mono hx⟩,fun p q=>by
    obtain ⟨q1,st,e,q2,q3,q4,q5⟩:=h8 p q
    exact ⟨q1,st,e,q2,q3,q4.mono hx,q5.mono hx⟩⟩
 | siter s pos=>obtain ⟨ba,h1,h2⟩:=h;exact ⟨ba,hw.trans h1,h2⟩
 | loop st pend fn n tm ps a b d =>
  obtain ⟨hz,L,h1,h2,h3,h4,h5,h6,h7,h8,h9,h10,k,h11⟩:=h
  obtain ⟨p,q⟩:=hx.obj _ _ h10 h11
  exact ⟨hz,L,hw.trans h1,h2,h3,h4,h5,fun i v hv=>(h6 i v hv).imp id fun q=>q.mono hx,h7,h8,h9,p,k,q⟩
 | defs=>exact hw.trans h
 | dead=>trivial
def qH0:Obj→Option Nat
 | .row v _ _ _ _ _=>some v
 | .rowS v _ _ _ _ _=>some v
 | _=>none
theorem W.ver' {B:Ns} {w0:World} {g:Gh} {h:Heap} {w:World} (hW:W B w0 g h w) (r:Nat):g.vr r=qH0 (h.get r):=by
 rw [hW.ver r];cases h.get r <;> rfl
theorem W.turn {B:Ns} {w0:World} {g g':Gh} {h h':Heap} {w w':World} (hW:W B w0 g h w) (r:Nat) (x':Nat×Nat×Nat)
 (hlow:Under B w w') (hx:Ext g g')
 (hn:h'.n=h.n∧r<h.n∨h'.n=h.n+1∧r=h.n)
 (hmu:∀ q,q≠r→g'.mu q=g.mu q) (hget:∀ q,q≠r→h'.get q=h.get q) (hvr:∀ q,q≠r→g'.vr q=g.vr q)
 (hmr:g'.mu r=some x') (hvrr:g'.vr r=qH0 (h'.get r))
 (hother:∀ q x,q≠r→g.mu q=some x→x.1≠x'.1∧w'.heap[x.1]?=w.heap[x.1]?∧∀ o v,g'.S x.1 o=some v→g.S x.1 o=some v)
 (hobj:ObjOk g' w' x' (h'.get r)) (hB:¬ B x'.1∧x'.1<w'.heap.size)
 (hS:∀ b o v,g'.S b o=some v→look w' b o=some v):W B w0 g' h' w' where
 low:=hW.low.trans hlow
 base:=fun b hb=>Nat.lt_of_lt_of_le (hW.base b hb) hlow.size
 shut:=hS
 dom:=fun q hq=>by
  by_cases e:q=r
  ·subst e;exact ⟨_,hmr⟩
  ·rw [hmu q e];exact hW.dom q (by omega)
 out:=fun q hq=>by
  have e:q≠r:=by omega
  rw [hmu q e,hget q e];exact hW.out q (by omega)
 ver:=fun q=>by
  by_cases e:q=r
  ·subst e;rw [hvrr];cases h'.get q <;> rfl
  ·rw [hvr q e,hget q e];exact hW.ver q
 obj:=fun q x hq=>by
  by_cases e:q=r
  ·subst e;rw [hmr] at hq;cases hq;exact hobj
  ·rw [hmu q e] at hq
   rw [hget q e]
   obtain ⟨_,h2,h3⟩:=hother q x e hq
   exact (hW.obj q x hq).mono hx h2 h3
 inj:=fun p q x y hp hq hxy=>by
  by_cases e:p=r
  ·by_cases e':q=r
   ·rw [e,e']
   ·subst e;rw [hmr] at hp;cases hp;rw [hmu q e'] at hq
    exact absurd hxy.symm (hother q y e' hq).1
  ·by_cases e':q=r
   ·subst e';rw [hmr] at hq;cases hq;rw [hmu p e] at hp
    exact absurd hxy (hother p x e hp).1
   ·rw [hmu p e] at hp;rw [hmu q e'] at hq;exact hW.inj p q x y hp hq hxy
 high:=fun q x hq=>by
  by_cases e:q=r
  ·subst e;rw [hmr] at hq;cases hq;exact hB
  ·rw [hmu q e] at hq;exact ⟨(hW.high q x hq).1,Nat.lt_of_lt_of_le (hW.high q x hq).2 hlow.size⟩
def Gh.say (g:Gh) (S:Nat→Nat→Option Value):Gh:=⟨g.mu,g.vr,S⟩
theorem Ext.say {g:Gh} {S:Nat→Nat→Option Value} (h:∀ b o v,g.S b o=some v→S b o=some v):Ext g (g.say S):=⟨h,fun _r v e=>⟨v,e,Nat.le_refl _,fun _=>rfl⟩,fun _ _ h h'=>⟨h,h'⟩⟩
theorem W.same {B:Ns} {w0:World} {g:Gh} {h:Heap} {w w':World} (hW:W B w0 g h w) (hh:w'.heap=w.heap) (ho:w'.os=w.os) (ht:w'.tape=w.tape) (hu:w'.output=w.output):W B w0 g h w' where
 low:=hW.low.trans ⟨ho,ht,hu,by rw [hh];exact Nat.le_refl _,fun _ _=>by rw [hh]⟩
 base:=by rw [hh];exact hW.base
 shut:=fun b o v hv=>Gr0 (by rw [hh]) (hW.shut b o v hv)
 dom:=hW.dom
 out:=hW.out
 ver:=hW.ver
 obj:=fun r x hr=>(hW.obj r x hr).mono (Ext.refl g) (by rw [hh]) (fun _ _ h=>h)
 inj:=hW.inj
 high:=fun r x hr=>by rw [hh];exact hW.high r x hr
theorem W.drew {B:Ns} {w0:World} {g:Gh} {h:Heap} {w:World} (hW:W B w0 g h w) (n:Nat):W B w0 g h { w with drawn:=n }:=hW.same rfl rfl rfl rfl
def Gh.new (g:Gh) (n:Nat) (x:Nat×Nat×Nat) (v:Option Nat):Gh:=⟨fun r=>if r=n then some x else g.mu r,fun r=>if r=n then v else g.vr r,g.S⟩
theorem W.live {B:Ns} {w0:World} {g:Gh} {h:Heap} {w:World} (hW:W B w0 g h w) {r:Nat} {x:Nat×Nat×Nat} (hr:g.mu r=some x):r<h.n:=by
 rcases Nat.lt_or_ge r h.n with h' | h'
 ·exact h'
 ·rw [(hW.out r h').1] at hr;cases hr
theorem Ext.new {B:Ns} {w0:World} {g:Gh} {h:Heap} {w:World} (hW:W B w0 g h w) (x:Nat×Nat×Nat) (v:Option Nat):Ext g (g.new h.n x v) where
 S:=fun _ _ _ e=>e
 row:=fun r v' hv=>by
  have hr:r≠h.n:=by
   rintro rfl
   rw [hW.ver' ,(hW.out _ (Nat.le_refl _)).2] at hv;cases hv
  exact ⟨v',by simp [Gh.new,hr,hv],Nat.le_refl _,fun _=>by simp [Gh.new,hr]⟩
 obj:=fun r x' hv hm=>by
  have hr:r≠h.n:=by have:=hW.live hm;omega
  simp [Gh.new,hr,hv,hm]
theorem Xe0 (w:World) (o:Go.Obj) (k:Nat) (h:k<w.heap.size):({ w with heap:=w.heap.push o }:World).heap[k]?=w.heap[k]?:=by
 show (w.heap.push o)[k]?=_
 rw [Array.getElem?_push,if_neg (by omega)]
theorem jl0 (w:World) (o:Go.Obj):({ w with heap:=w.heap.push o }:World).heap[w.heap.size]?=some o:=by
 show (w.heap.push o)[w.heap.size]?=_
 simp
theorem Under.push (B:Ns) (w:World) (o:Go.Obj) (hB:∀ b,B b→b<w.heap.size):Under B w { w with heap:=w.heap.push o } :=
 ⟨rfl,rfl,rfl,by simp,fun k hk=>Xe0 w o k (hB k hk)⟩
theorem W.fresh {B:Ns} {w0:World} {g:Gh} {h:Heap} {w:World} (hW:W B w0 g h w):¬ B w.heap.size:=fun h=>Nat.lt_irrefl _ (hW.base _ h)
theorem Gu0 {w:World} {b o:Nat} {v:Value} (x:Go.Obj) (h:look w b o=some v):look ({ w with heap:=w.heap.push x }:World) b o=some v :=
 Gr0 (Xe0 w x b (je1 h)) h
theorem W.alloc {B:Ns} {w0:World} {g:Gh} {h:Heap} {w:World} (hW:W B w0 g h w) (o:Go.Obj) (obj:Obj) (k sz:Nat)
 (hobj:ObjOk (g.new h.n (w.heap.size,k,sz) (qH0 obj)) { w with heap:=w.heap.push o } (w.heap.size,k,sz) obj) :
 W B w0 (g.new h.n (w.heap.size,k,sz) (qH0 obj)) (h.new obj) { w with heap:=w.heap.push o }:=by
 refine hW.turn h.n (w.heap.size,k,sz) (Under.push B w o hW.base) (Ext.new hW _ _) (.inr ⟨Heap.n_new _ _,rfl⟩) (fun q hq=>by simp [Gh.new,hq]) (fun q hq=>by rw [Heap.get_new,if_neg (fun e=>hq e.symm)])
  (fun q hq=>by simp [Gh.new,hq]) (by simp [Gh.new]) (by simp [Gh.new,Heap.get_new]) ?_ (by rw [Heap.get_new,if_pos rfl];exact hobj) ⟨hW.fresh,by simp⟩ (fun b o' v hv=>Gu0 o (hW.shut b o' v hv))
 intro q x hq hm
 have:=(hW.high q x hm).2
 exact ⟨by simp;omega,Xe0 w o x.1 this,fun _ _ h=>h⟩
theorem yU1 (l:List V) (x:V):Qc0 (l++[x])=some (l,x):=by
 induction l with
 | nil=>rfl
 | cons y l IH =>
  change (match Qc0 (l++[x]) with | some p=>some (y::p.1,p.2) | none=>some ([],y))=_
  rw [IH]
theorem yV1 {es:List V}:∀ {p:List V×V},Qc0 es=some p→es=p.1++[p.2]:=by
 induction es with
 | nil=>intro p h;cases h
 | cons e l IH =>
  intro p h
  change (match Qc0 l with | some p=>some (e::p.1,p.2) | none=>some ([],e))=some p at h
  cases hl:Qc0 l with
  | some q =>
   rw [hl] at h;cases h
   rw [IH hl];rfl
  | none =>
   rw [hl] at h;cases h
   cases l with
   | nil=>rfl
   | cons y l =>
    change (match Qc0 l with | some p=>some (y::p.1,p.2) | none=>some ([],y))=none at hl
    split at hl <;> cases hl
def xpH (h:Heap) (r:Nat):Heap:=match h.get r with
 | .rowS ver ty sz pub l x=>h.set r (.row ver ty sz pub none (l++[x]))
 | _=>h
theorem W.lt {B:Ns} {w0:World} {g:Gh} {h:Heap} {w:World} (hW:W B w0 g h w) {r:Nat} (hr:h.get r≠.dead):r<h.n:=by
 rcases Nat.lt_or_ge r h.n with q | q
 ·exact q
 ·exact absurd (hW.out r q).2 hr
theorem W.setO {B:Ns} {w0:World} {g:Gh} {h:Heap} {w:World} (hW:W B w0 g h w) {r:Nat} {o:Obj} (ho:∀ x,g.mu r=some x→ObjOk g w x o) (hr:r<h.n) (hv:qH0 o=qH0 (h.get r)):W B w0 g (h.set r o) w:=by
 refine ⟨hW.low,hW.base,hW.shut,hW.dom,fun q hq=>?_,fun q=>?_,fun q x hx=>?_,hW.inj,hW.high⟩
 ·have hq':h.n≤q:=hq
  obtain ⟨h1,h2⟩:=hW.out q hq'
  rw [Heap.get_set,if_neg (by omega)]
  exact ⟨h1,h2⟩
 ·rw [Heap.get_set]
  by_cases e:r=q
  ·rw [if_pos e];subst e
   rw [hW.ver',← hv];cases o <;> rfl
  ·rw [if_neg e];exact hW.ver q
 ·rw [Heap.get_set]
  split
  ·rename_i e;subst e;exact ho x hx
  ·exact hW.obj q x hx
theorem Kh0 {B:Ns} {w0:World} {g:Gh} {h:Heap} {w:World} (hW:W B w0 g h w) (r:Nat):W B w0 g (xpH h r) w:=by
 unfold xpH
 split
 ·rename_i ver ty sz pub l x hg
  exact hW.setO (fun a ha=>by have:=hW.obj r a ha;rw [hg] at this;exact this) (hW.lt (by rw [hg];simp)) (by rw [hg];rfl)
 ·exact hW
theorem W.congrH {B:Ns} {w0:World} {g:Gh} {h h':Heap} {w:World} (hW:W B w0 g h w) (hn:h'.n=h.n) (hg:∀ q,h'.get q=h.get q):W B w0 g h' w :=
 ⟨hW.low,hW.base,hW.shut,fun r hr=>hW.dom r (hn ▸ hr),fun r hr=>by rw [hg];exact hW.out r (hn ▸ hr),fun r=>by rw [hg];exact hW.ver r,fun r x hx=>by rw [hg];exact hW.obj r x hx,hW.inj,hW.high⟩
theorem Addr.add_mk (b o n:Nat):(⟨b,o,none⟩:Addr).add n=⟨b,o+n,none⟩:=by
 unfold Addr.add;split
 ·rename_i h;simp [h]
 ·rfl
theorem Addr.eta {a:Addr} (h:a.spot=none):a=⟨a.block,a.off,none⟩:=by cases a;simp at h;simp [h]
def blk (w:World) (b:Nat) (o:Go.Obj):World:={ w with heap:=w.heap.setIfInBounds b o }
theorem yt0 (w:World) (b:Nat) (o:Go.Obj) (h:b<w.heap.size):(blk w b o).heap[b]?=some o:=by simp [blk,h]
theorem Yt0 (w:World) (b q:Nat) (o:Go.Obj) (h:q≠b):(blk w b o).heap[q]?=w.heap[q]?:=by
 simp only [blk];rw [Array.getElem?_setIfInBounds];rw [if_neg (fun e=>h e.symm)]
theorem Kp0 (w:World) (b:Nat) (o:Go.Obj):(blk w b o).heap.size=w.heap.size:=by simp [blk]
theorem Zy1 (w:World) (b:Nat) (o o':Go.Obj):blk (blk w b o) b o'=blk w b o':=by
 simp only [blk]
 congr 1
 apply Array.ext_getElem?
 intro i
 simp only [Array.getElem?_setIfInBounds,Array.size_setIfInBounds]
 split <;> rfl
theorem qP1 (w:World) (b:Nat) (o:Go.Obj) (h:w.heap[b]?=some o):blk w b o=w:=by
 have:w.heap.setIfInBounds b o=w.heap:=by
  apply Array.ext_getElem?
  intro i
  rw [Array.getElem?_setIfInBounds]
  split
  ·rename_i e;subst e;rw [if_pos (zJ0 h),h]
  ·rfl
 simp [blk,this]
theorem Under.blk {B:Ns} (w:World) (b:Nat) (o:Go.Obj) (hb:¬ B b):Under B w (blk w b o) :=
 ⟨rfl,rfl,rfl,by rw [Kp0];exact Nat.le_refl _,fun k hk=>Yt0 w b k o (fun e=>hb (e ▸ hk))⟩
theorem qW2 {w:World} {b o:Nat} {C:Array Value} {T:TypeId} {fr:Nat×Nat} (v:Value) (h:w.heap[b]?=some (.cells C T fr)) :
 w.setCell ⟨b,o,none⟩ v=blk w b (.cells (C.setIfInBounds o v) T fr):=by
 simp only [World.setCell,blk]
 congr 1
 apply Array.ext_getElem?
 intro i
 rw [Array.getElem?_modify,Array.getElem?_setIfInBounds]
 split
 ·rename_i e;subst e;rw [if_pos (zJ0 h)];simp [h]
 ·rfl
theorem Gq0 {w:World} {b q o:Nat} (x:Go.Obj) (h:q≠b):look (blk w b x) q o=look w q o:=by
 unfold look;simp only [Yt0 w b q x h]
def over (C:Array Value) (i:Nat):List Value→Array Value
 | []=>C
 | v::l=>over (C.setIfInBounds i v) (i+1) l
theorem YW0 (C:Array Value) (i:Nat) (l:List Value):(over C i l).size=C.size:=by
 induction l generalizing C i with
 | nil=>rfl
 | cons v l ih=>rw [over,ih];simp
theorem YV0 (C:Array Value) (i:Nat) (l:List Value) (h:i+l.length≤C.size) (k:Nat) :
 (over C i l)[k]?=if i≤k∧k<i+l.length then l[k-i]? else C[k]?:=by
 induction l generalizing C i with
 | nil=>rw [over,if_neg (by simp only [List.length_nil];omega)]
 | cons v l ih =>
  simp only [List.length_cons] at h
  rw [over,ih _ _ (by simp;omega)]
  by_cases h1:k=i
  ·subst h1
   rw [if_neg (by omega),if_pos (by simp),Array.getElem?_setIfInBounds,if_pos rfl,if_pos (by omega)]
   simp
  ·by_cases h2:i+1≤k∧k<i+1+l.length
   ·rw [if_pos h2,if_pos (by simp;omega)]
    have:k-i=(k-(i+1))+1:=by omega
    rw [this];simp
   ·rw [if_neg h2,if_neg (by simp;omega),Array.getElem?_setIfInBounds,if_neg (fun e=>h1 e.symm)]
theorem Xc1 {w:World} {b o:Nat} {C:Array Value} {T:TypeId} {fr:Nat×Nat} (h:w.heap[b]?=some (.cells C T fr)):w.frozen? ⟨b,o,none⟩=(decide (fr.1≤o)&&decide (o<fr.2)):=by
 unfold World.frozen?;simp [h]
theorem XO0 {P:Program} {b o:Nat} {T:TypeId} {fr:Nat×Nat}:∀ (vs:List Value) (i:Nat) (C:Array Value) (w:World),w.heap[b]?=some (.cells C T fr)→o+i+vs.length≤C.size →
 (∀ v∈vs,v.oneCell'=true)→(∀ k,o+i≤k→k<o+i+vs.length→¬ (fr.1≤k∧k<fr.2)) →
 (storeCells ⟨b,o,none⟩ vs i).run P w=.ok () (blk w b (.cells (over C (o+i) vs) T fr))
 | [],i,C,w,h,_,_,_=>by
  simp only [storeCells,over]
  rw [qP1 w b _ h];rfl
 | v::l,i,C,w,h,hn,h1,hf=>by
  simp only [List.length_cons] at hn hf
  have hc:w.cell? ⟨b,o+i,none⟩=some C[o+i]:=Yy0 h (by simp)
  have hfr:w.frozen? ⟨b,o+i,none⟩=false:=by
   rw [Xc1 h]
   have:=hf (o+i) (Nat.le_refl _) (by omega)
   simp only [Bool.and_eq_false_iff,decide_eq_false_iff_not];omega
  simp only [storeCells,Sem.run_bind,Addr.add_mk]
  rw [run_store _ _ _ _ _ (h1 v (by simp)),hc]
  simp only [hfr,Bool.false_eq_true,if_false,Result.andThen_ok]
  rw [qW2 v h,XO0 l (i+1) (C.setIfInBounds (o+i) v) _ (yt0 w b _ (zJ0 h)) (by simp;omega) (fun u hu=>h1 u (by simp [hu])) (fun k a c=>hf k (by omega) (by omega)),Zy1]
  rfl
theorem Yo0 {P:Program} {t:TypeId} {b:Bool} (h:jH0 P t=some b) (w:World):(Go.isAgg t).run P w=.ok b w:=by
 unfold jH0 at h
 unfold Go.isAgg
 split at h
 ·rename_i fs e;cases h;simp [run_underlying e]
 ·rename_i n el e;cases h;simp [run_underlying e]
 ·rename_i d e1 e2 e
  cases h
  simp only [Sem.run_bind,run_underlying e,Result.andThen_ok]
  cases d <;> first | rfl | exact absurd rfl (e1 _ ) | exact absurd e (e1 _) | exact absurd e (e2 _ _)
 ·cases h
theorem XA1 {P:Program} {t:TypeId} {d:TypeDesc} (h:P.underlying t=some d):∃ i,P.info? t=some i:=by
 unfold Program.underlying at h
 cases hi:P.info? t with
 | none=>simp [hi] at h
 | some i=>exact ⟨i,rfl⟩
theorem Jy0 {P:Program} {t:TypeId} {b:Bool} (h:jH0 P t=some b):∃ i,P.info? t=some i:=by
 unfold jH0 at h
 cases hu:P.underlying t with
 | none=>simp [hu] at h
 | some d=>exact XA1 hu
theorem za0 {P:Program} {t:TypeId} {i:TypeInfo} (h:P.info? t=some i) (w:World):(sizeOf t).run P w=.ok (size P t) w:=run_sizeOf w h
theorem qM2 {P:Program} {w:World} {t:TypeId} {a:Addr} {cs:List V} {y:V} {g:Gh} {vs:List Value} (hp:yf0 P t cs=some y) (hl:vs.length=cs.length)
 (hc:∀ (j:Nat) v,vs[j]?=some v→w.cell? (a.add j)=some v∧v.oneCell'=true) (hR:∀ (j:Nat) v x,vs[j]?=some v→cs[j]?=some x→R g v x) :
 ∃ v,(loadVar t a).run P w=.ok v w∧R g v y:=by
 unfold yf0 at hp
 split at hp
 ·cases hp
 ·rename_i hk
  cases hb:Nat.beq (List.len cs) (size P t) with
  | false=>rw [hb] at hp;cases hp
  | true =>
   rw [hb] at hp;cases hp
   rw [Nat.beq_eq,List.len_eq] at hb
   obtain ⟨i,hi⟩:=Jy0 hk
   refine ⟨.agg vs.toArray,?_,.agg (by simp [hl]) (fun i v hv=>(hc i v (by simpa using hv)).2) (fun i v x hv hx=>hR i v x (by simpa using hv) hx)⟩
   unfold loadVar
   simp only [Sem.run_bind,Yo0 hk,Result.andThen_ok,if_true,za0 hi]
   have:=run_loadCells_list (P:=P) w a vs (fun j v hv=>(hc j v hv).1)
   rw [← hb,← hl,this]
   rfl
 ·rename_i hk
  split at hp
  ·rename_i x
   cases hp
   match vs,hl with
   | [v],_ =>
    refine ⟨v,?_,hR 0 v _ rfl rfl⟩
    unfold loadVar
    have h0:=(hc 0 v rfl).1
    have h0':w.cell? a=some v:=by simpa [Addr.add] using h0
    simp only [Sem.run_bind,Yo0 hk,Result.andThen_ok,Bool.false_eq_true,if_false,run_load,h0']
  ·cases hp
theorem qf0 {α:Type} {b:Bool} {x y:Option α} {r:α} (h:(bif b then x else y)=some r) (hy:y=none):b=true∧x=some r:=by
 cases b with
 | true=>exact ⟨rfl,h⟩
 | false=>rw [hy] at h;cases h
theorem zf1 {sz k off:Nat} {es cs:List V} (h:qE0 sz es off k=some cs) (hsz:0<sz) (he:∀ (i:Nat) e,es[i]?=some e→e.cells.length=sz) :
 ∃ e,es[off/sz]?=some e∧off%sz+k≤e.cells.length∧cs=(e.cells.drop (off%sz)).take k:=by
 unfold qE0 at h
 cases h1:Nat.beq sz 1 with
 | true =>
  rw [h1] at h
  simp only [cond_true] at h
  rw [Nat.beq_eq] at h1;subst h1
  obtain ⟨hk,h⟩:=qf0 h rfl
  rw [Nat.beq_eq] at hk;subst hk
  rw [List.at_eq] at h
  cases hx:es[off]? with
  | none=>rw [hx] at h;cases h
  | some e =>
   rw [hx] at h;cases h
   have hl:=he _ _ hx
   refine ⟨e,by rw [Nat.div_one];exact hx,by rw [Nat.mod_one,hl];omega,?_⟩
   rw [Nat.mod_one,List.drop_zero,List.take_of_length_le (by omega)]
 | false =>
  rw [h1] at h
  change (match List.at es (off/sz) with | none=>none | some e=>bif Nat.ble (off%sz+k) (List.len e.cells) then some (List.takeN (List.dropN e.cells (off%sz)) k) else none)=some cs at h
  rw [List.at_eq] at h
  cases hx:es[off/sz]? with
  | none=>rw [hx] at h;cases h
  | some e =>
   rw [hx] at h
   obtain ⟨hk,h⟩:=qf0 h rfl
   cases h
   rw [Nat.ble_eq,List.len_eq] at hk
   exact ⟨e,rfl,hk,by rw [List.takeN_eq,List.dropN_eq]⟩
theorem jG1 {P:Program} {t:TypeId} {o:Option (List V)} {y:V} (h:zx0 P t o=some y):∃ cs,o=some cs∧yf0 P t cs=some y:=by
 cases o with
 | none=>cases h
 | some cs=>exact ⟨cs,rfl,h⟩
theorem yY1 {P:Program} {w:World} {t:TypeId} {g:Gh} {b base i j0 sz:Nat} {e y:V} {cs:List V} (f:Nat→Value)
 (hf:∀ (j:Nat) x,e.cells[j]?=some x→w.cell? ⟨b,base+i*sz+j,none⟩=some (f j)∧(f j).oneCell'=true∧R g (f j) x)
 (hk:j0+size P t≤e.cells.length) (hcs:cs=(e.cells.drop j0).take (size P t)) (hp:yf0 P t cs=some y) :
 ∃ v,(loadVar t ⟨b,base+i*sz+j0,none⟩).run P w=.ok v w∧R g v y:=by
 have hlen:cs.length=size P t:=by rw [hcs];simp;omega
 have hget:∀ j,j<size P t→∃ x,e.cells[j0+j]?=some x∧cs[j]?=some x:=by
  intro j hj
  obtain ⟨x,hx⟩:=qr0 e.cells (j0+j) (by omega)
  refine ⟨x,hx,?_⟩
  rw [hcs,List.getElem?_take,if_pos hj,List.getElem?_drop];exact hx
 refine qM2 (vs:=(List.range (size P t)).map fun j=>f (j0+j)) hp (by simp [hlen]) (fun j v hv=>?_) (fun j v x hv hx=>?_)
 ·simp only [List.getElem?_map] at hv
  by_cases hj:j<size P t
  ·rw [List.getElem?_range hj] at hv
   simp at hv;subst hv
   obtain ⟨x,hx,_⟩:=hget j hj
   obtain ⟨p,q,_⟩:=hf _ x hx
   rw [Addr.add_mk]
   have e:base+i*sz+j0+j=base+i*sz+(j0+j):=by omega
   rw [e];exact ⟨p,q⟩
  ·rw [List.getElem?_eq_none (by simp;omega)] at hv;simp at hv
 ·simp only [List.getElem?_map] at hv
  by_cases hj:j<size P t
  ·rw [List.getElem?_range hj] at hv
   simp at hv;subst hv
   obtain ⟨x',hx',hx''⟩:=hget j hj
   have e:=Option.some.inj (hx''.symm.trans hx)
   exact e ▸ (hf _ x' hx').2.2
  ·rw [List.getElem?_eq_none (by simp;omega)] at hv;simp at hv
theorem W.row {B:Ns} {w0:World} {g:Gh} {h:Heap} {w:World} (hW:W B w0 g h w) {r ver ty sz pub:Nat} {cap:Option Nat} {es:List V} (hr:h.get r=.row ver ty sz pub cap es) :
 g.vr r=some ver∧∃ b k C fr,g.mu r=some (b,k,sz)∧RowOk g w b k sz ty pub cap es C fr∧r<h.n:=by
 have hv:g.vr r=some ver:=by rw [hW.ver',hr];rfl
 have hn:r<h.n:=by
  rcases Nat.lt_or_ge r h.n with h' | h'
  ·exact h'
  ·rw [(hW.out r h').2] at hr;cases hr
 obtain ⟨⟨b,k,s⟩,hm⟩:=hW.dom r hn
 have ho:=hW.obj r _ hm
 rw [hr] at ho
 obtain ⟨e,C,fr,hrow⟩:=ho
 simp only at e;subst e
 exact ⟨hv,b,k,C,fr,hm,hrow,hn⟩
theorem Kj1 {P:Program} {h:Heap} {t:TypeId} {r ver off ver' ty sz pub:Nat} {l:List V} {x:V} (hg:h.get r=.rowS ver' ty sz pub l x):load P h t (.ptr r ver off)=load P (h.set r (.row ver' ty sz pub none (l++[x]))) t (.ptr r ver off):=by
 simp only [load,hg,Heap.get_set,if_true]
theorem ja1 {P:Program} {B:Ns} {w0:World} {g:Gh} {h:Heap} {w:World} (hW:W B w0 g h w) {t:TypeId} {a y:V} {va:Value} (hR:R g va a) (hl:load P h t a=some y) :
 ∃ v,(Instr.loadAt t va).run P w=.ok v w∧R g v y:=by
 have hx:∃ h2,W B w0 g h2 w∧load P h2 t a=some y∧∀ r ver off,a=.ptr r ver off→∀ v' ty sz pub l x,h2.get r≠.rowS v' ty sz pub l x:=by
  by_cases hs:∃ r ver off v' ty sz pub l x,a=.ptr r ver off∧h.get r=.rowS v' ty sz pub l x
  ·obtain ⟨r,ver,off,v',ty,sz,pub,l,x,rfl,hg⟩:=hs
   refine ⟨_,?_,(Kj1 hg).symm.trans hl,fun r' ver' off' e v2 ty2 sz2 pub2 l2 x2 e2=>?_⟩
   ·have:=Kh0 hW r
    unfold xpH at this
    rw [hg] at this
    exact this
   ·cases e
    rw [Heap.get_set,if_pos rfl] at e2;cases e2
  ·exact ⟨h,hW,hl,fun r ver off e v' ty sz pub l x e2=>hs ⟨r,ver,off,v',ty,sz,pub,l,x,e,e2⟩⟩
 obtain ⟨h,hW,hl,hno⟩:=hx
 cases a with
 | ptr r ver off =>
  obtain ⟨ad,ver',rfl,hv,hle,hp⟩:=hR.ptr_inv
  simp only [load] at hl
  split at hl
  ·rename_i ver2 ty sz pub cap es hr
   obtain ⟨hb,hl2⟩:=qf0 hl rfl
   rw [Nat.beq_eq] at hb;subst hb
   obtain ⟨hv2,b,k,C,fr,hm,hrow,_⟩:=hW.row hr
   rw [hv2] at hv;cases hv
   obtain ⟨k',sz',hm',ho,hs⟩:=hp rfl
   rw [hm] at hm'
   simp only [Option.some.injEq,Prod.mk.injEq] at hm'
   obtain ⟨hb',rfl,rfl⟩:=hm'
   obtain ⟨cs,hc,hpk⟩:=jG1 hl2
   obtain ⟨e,he,hk,hcs⟩:=zf1 hc hrow.pos (fun i e he=>(hrow.elems i e he).1)
   have had:ad=⟨b,0+off/sz*sz+off%sz,none⟩:=by
    rw [Addr.eta hs,← hb',ho];congr 1
    have:=Nat.div_add_mod off sz
    rw [Nat.mul_comm] at this;omega
   obtain ⟨v,h1,h2⟩:=yY1 (P:=P) (w:=w) (t:=t) (g:=g) (b:=b) (base:=0) (i:=off/sz) (j0:=off%sz) (sz:=sz) (e:=e) (y:=y) (cs:=cs) (fun j=>C.getD (off/sz*sz+j) Go.undef)
    (fun j x hx=>by
     obtain ⟨v,p,q,s⟩:=hrow.cells _ _ _ _ he hx
     have:C.getD (off/sz*sz+j) Go.undef=v:=by simp [Array.getD_eq_getD_getElem?,p]
     rw [this]
     exact ⟨Yy0 hrow.at_ (by rw [Nat.zero_add];exact p),q,s⟩) hk hcs hpk
   refine ⟨v,?_,h2⟩
   simp only [Instr.loadAt,Instr.sureAddr,Sem.run_bind,Sem.run_pure,Result.andThen_ok]
   rw [had];exact h1
  ·rename_i hr
   exact absurd hr (hno _ _ _ rfl _ _ _ _ _ _)
  ·cases hl
 | gptr sz es off =>
  have hg:=hR.gptr_inv
  cases hg with
  | gptr val hsz hc hS hh =>
   rename_i b base
   simp only [load] at hl
   obtain ⟨cs,hc',hpk⟩:=jG1 hl
   obtain ⟨e,he,hk,hcs⟩:=zf1 hc' hsz (fun i e he=>(hc i e he).1)
   obtain ⟨v,h1,h2⟩:=yY1 (P:=P) (w:=w) (t:=t) (g:=g) (b:=b) (base:=base) (i:=off/sz) (j0:=off%sz) (sz:=sz) (e:=e) (y:=y) (cs:=cs) (fun j=>val (off/sz) j)
    (fun j x hx=>⟨jd1 (hW.shut _ _ _ (hS _ _ _ _ he hx).1) (hS _ _ _ _ he hx).2,(hS _ _ _ _ he hx).2,.gnd (hh _ _ _ _ he hx)⟩) hk hcs hpk
   refine ⟨v,?_,h2⟩
   simp only [Instr.loadAt,Instr.sureAddr,Sem.run_bind,Sem.run_pure,Result.andThen_ok]
   have:base+off=base+off/sz*sz+off%sz:=by
    have:=Nat.div_add_mod off sz
    rw [Nat.mul_comm] at this;omega
   rw [this];exact h1
 | _=>cases hl
theorem qh2 {e e':V} {j:Nat} {new:List V} (h:yo0 e j new=some e') (hf:e.flat=true) (hn:new≠[]∨∃ cs,e=.agg cs) (h1:∀ x∈new,x.flat=true∧x.cells=[x]) :
 j+new.length≤e.cells.length∧e'.cells.length=e.cells.length∧e'.flat=true∧∀ (k:Nat) x,e'.cells[k]?=some x→(j≤k∧k<j+new.length∧new[k-j]?=some x)∨(¬ (j≤k∧k<j+new.length)∧e.cells[k]?=some x):=by
 unfold yo0 at h
 split at h
 ·rename_i cs
  obtain ⟨hb,h⟩:=qf0 h rfl
  cases h
  rw [Nat.ble_eq,List.len_eq,List.len_eq] at hb
  change j+new.length≤cs.length at hb
  have hsp:(V.agg (yF0 cs j new)).cells=cs.take j++(new++cs.drop (j+new.length)):=by
   show yF0 cs j new=_
   unfold yF0;rw [List.app_eq,List.app_eq,List.takeN_eq,List.dropN_eq,List.len_eq];rfl
  rw [hsp]
  refine ⟨hb,by simp [V.cells];omega,rfl,fun k x hx=>?_⟩
  have htk:(cs.take j).length=j:=by simp;omega
  by_cases hk1:k<j
  ·right
   refine ⟨by omega,?_⟩
   rw [List.getElem?_append_left (by omega)] at hx
   rw [List.getElem?_take,if_pos hk1] at hx;exact hx
  ·rw [List.getElem?_append_right (by omega),htk] at hx
   by_cases hk2:k<j+new.length
   ·left
    refine ⟨by omega,hk2,?_⟩
    rw [List.getElem?_append_left (by omega)] at hx;exact hx
   ·right
    refine ⟨by omega,?_⟩
    rw [List.getElem?_append_right (by omega),List.getElem?_drop] at hx
    have:j+new.length+(k-j-new.length)=k:=by omega
    rw [this] at hx;exact hx
 ·rename_i hne
  split at h
  ·split at h
   ·rename_i v
    cases h
    have hc:e.cells=[e]:=by cases e <;> first | rfl | exact absurd rfl (hne _)
    obtain ⟨p,q⟩:=h1 _ (List.mem_singleton.2 rfl)
    rw [hc,q]
    refine ⟨by simp,rfl,p,fun k x hx=>?_⟩
    left
    cases k with
    | zero=>simp at hx;subst hx;exact ⟨Nat.le_refl _,by simp,rfl⟩
    | succ k=>simp at hx
   ·cases h
  ·cases h
theorem qT2 {g:Gh} {v:Value} {x:V} (h:R g v x) (h1:v.oneCell'=true):x.flat=true∧x.cells=[x]:=by
 cases x with
 | agg vs=>obtain ⟨cs,rfl,_⟩:=h.agg_inv;simp [Value.oneCell'] at h1
 | tup vs=>obtain ⟨cs,rfl,_⟩:=h.tup_inv;simp [Value.oneCell'] at h1
 | fsl=>exact (h.fsl_inv).elim
 | _=>exact ⟨rfl,rfl⟩
theorem yE1 {i i' j j' sz:Nat} (h:i≠i') (hj:j<sz) (hj':j'<sz):i*sz+j≠i'*sz+j':=by
 intro e
 have h1:(i*sz+j)/sz=i:=by
  rw [Nat.mul_comm,Nat.mul_add_div (by omega),Nat.div_eq_of_lt hj];rfl
 have h2:(i'*sz+j')/sz=i':=by
  rw [Nat.mul_comm,Nat.mul_add_div (by omega),Nat.div_eq_of_lt hj'];rfl
 rw [e,h2] at h1;exact h h1.symm
theorem yP0 {i n j sz:Nat} (h:i<n) (hj:j<sz):i*sz+j<n*sz:=by
 have:(i+1)*sz≤n*sz:=Nat.mul_le_mul_right sz h
 rw [Nat.succ_mul] at this;omega
theorem yD1 {i n j sz:Nat} (h:n≤i):n*sz≤i*sz+j:=Nat.le_trans (Nat.mul_le_mul_right sz h) (Nat.le_add_right _ _)
theorem yp0 {P:Program} {t:TypeId} (h:1≤size P t):∃ i,P.info? t=some i:=by
 unfold size Program.cellsOf at h
 cases hi:P.info? t with
 | none=>simp [hi] at h
 | some i=>exact ⟨i,rfl⟩
theorem W.setRow {B:Ns} {w0:World} {g:Gh} {h:Heap} {w:World} (hW:W B w0 g h w) {r ver ty sz pub:Nat} {cap:Option Nat} {es:List V} {b k:Nat} {C C':Array Value} {fr fr':Nat×Nat} {es':List V} {pub':Nat}
 (hr:h.get r=.row ver ty sz pub cap es) (hm:g.mu r=some (b,k,sz)) (hrow:RowOk g w b k sz ty pub cap es C fr)
 (hrow':RowOk g (blk w b (.cells C' ty fr')) b k sz ty pub' cap es' C' fr')
 (hkeep:∀ o v,g.S b o=some v→C[o]?=some v→C'[o]?=some v):W B w0 g (h.set r (.row ver ty sz pub' cap es')) (blk w b (.cells C' ty fr')):=by
 have hn:=hW.live hm
 refine hW.turn r (b,k,sz) (Under.blk w b _ (hW.high r _ hm).1) (Ext.refl g) (.inl ⟨Heap.n_set _ _ _,hn⟩) (fun _ _=>rfl) (fun q hq=>by rw [Heap.get_set,if_neg (fun e=>hq e.symm)]) (fun _ _=>rfl) hm
  (by rw [hW.ver',hr,Heap.get_set,if_pos rfl];rfl) ?_ (by rw [Heap.get_set,if_pos rfl];exact ⟨rfl,C',fr',hrow'⟩) ⟨(hW.high r _ hm).1,by rw [Kp0];exact (hW.high r _ hm).2⟩ ?_
 ·intro q x hq hx
  have hne:x.1≠b:=fun e=>hq (hW.inj q r x _ hx hm e)
  exact ⟨hne,Yt0 w b x.1 _ hne,fun _ _ h=>h⟩
 ·intro b' o v hv
  by_cases e:b'=b
  ·subst e
   have h1:=hW.shut _ o v hv
   obtain ⟨h3,h4⟩:=YP0 hrow.at_ h1
   exact ZO0 (yt0 w _ _ (zJ0 hrow.at_)) (hkeep o v hv h3) h4
  ·rw [Gq0 _ e];exact hW.shut b' o v hv
theorem QD1 {P:Program} {B:Ns} {w0:World} {g:Gh} {h h':Heap} {w:World} (hW:W B w0 g h w) {t:TypeId} {a x:V} {va vx:Value} (hR:R g va a) (hx:R g vx x) (hl:store P h t a x=some h') (hno:∀ r ver off,a=.ptr r ver off→∀ v' ty sz pub l x,h.get r≠.rowS v' ty sz pub l x) :
 ∃ w',(Instr.storeAt t va vx).run P w=.ok () w'∧W B w0 g h' w':=by
 cases a with
 | ptr r ver off =>
  obtain ⟨ad,ver',rfl,hv,hle,hp⟩:=hR.ptr_inv
  simp only [store] at hl
  split at hl
  ·rename_i ver2 ty sz pub cap es hr
   obtain ⟨hb,hl2⟩:=qf0 hl rfl
   simp only [Bool.and_eq_true] at hb
   obtain ⟨⟨⟨⟨hb1,hflat⟩,hsz⟩,hpub⟩,hone⟩:=hb
   rw [Nat.beq_eq] at hb1 hsz;rw [Nat.ble_eq] at hpub hone;rw [List.len_eq] at hsz
   subst hb1
   obtain ⟨hv2,b,k,C,fr,hm,hrow,_⟩:=hW.row hr
   rw [hv2] at hv;cases hv
   obtain ⟨k',sz',hm',ho,hs⟩:=hp rfl
   rw [hm] at hm'
   simp only [Option.some.injEq,Prod.mk.injEq] at hm'
   obtain ⟨hb',rfl,rfl⟩:=hm'
   change pub≤off/sz at hpub
   split at hl2
   ·rename_i e hat
    split at hl2
    ·rename_i e' hput
     cases hl2
     rw [List.at_eq] at hat
     change es[off/sz]?=some e at hat
     change yo0 e (off%sz) x.cells=some e' at hput
     obtain ⟨hel,hef⟩:=hrow.elems _ _ hat
     obtain ⟨⟨hcn,hcR⟩,hc1⟩:=hx.cells hflat
     have hscal:∀ y∈x.cells,y.flat=true∧y.cells=[y]:=fun y hy=>by
      obtain ⟨i,hi⟩:=List.getElem?_of_mem hy
      obtain ⟨u,hu⟩:=zy0 vx.cells i (by rw [hcn];exact qd0 hi)
      exact qT2 (hcR i u y hu hi) (hc1 i u hu)
     have hne:x.cells≠[]:=fun e=>by rw [e] at hsz;simp at hsz;omega
     obtain ⟨hfit,hlen,hfl,hget⟩:=qh2 hput hef (.inl hne) hscal
     rw [hel] at hfit
     have hi:off/sz<es.length:=qd0 hat
     have hoff:off=off/sz*sz+off%sz:=by
      have:=Nat.div_add_mod off sz
      rw [Nat.mul_comm] at this;omega
     have hend:off+x.cells.length≤C.size:=by
      rw [hrow.csize]
      have:(off/sz+1)*sz≤k*sz:=Nat.mul_le_mul_right sz (Nat.lt_of_lt_of_le hi hrow.fits)
      rw [Nat.succ_mul] at this;omega
     have hlow:pub*sz≤off:=by rw [hoff];exact yD1 hpub
     obtain ⟨inf,hinf⟩:=yp0 hone
     have hrun:=XO0 (P:=P) (b:=b) (o:=off) (T:=ty) (fr:=fr) vx.cells.toList 0 C w hrow.at_ (by simp [hcn];omega)
      (fun v hv=>by
       obtain ⟨i,hi⟩:=List.getElem?_of_mem hv
       exact hc1 i v (by simpa using hi))
      (fun q h1 h2=>by rcases hrow.ice with h | ⟨h,h'⟩ <;> omega)
     refine ⟨blk w b (.cells (over C (off+0) vx.cells.toList) ty fr),?_,?_⟩
     ·simp only [Instr.storeAt,Instr.sureAddr,Sem.run_bind,Sem.run_pure,Result.andThen_ok,storeVar,za0 hinf]
      rw [if_neg (by rw [hcn,hsz];simp)]
      rw [Addr.eta hs,← hb',ho];exact hrun
     ·rw [List.setN_eq]
      change W B w0 g (h.set r (.row ver ty sz pub cap (es.set (off/sz) e'))) _
      have hovg:=YV0 C (off+0) vx.cells.toList (by simp [hcn];omega)
      simp only [Nat.add_zero,Array.length_toList,hcn] at hovg
      refine hW.setRow hr hm hrow ⟨yt0 w _ _ (zJ0 hrow.at_),by rw [YW0];exact hrow.csize,hrow.pos,by simp;exact hrow.fits,by simp;exact hrow.pubs,hrow.caps,?_,?_,hrow.shut,hrow.ice⟩ ?_
      ·intro i e2 he2
       rw [List.getElem?_set] at he2
       split at he2
       ·(try rw [if_pos hi] at he2);cases he2;exact ⟨hlen.trans hel,hfl⟩
       ·exact hrow.elems i e2 he2
      ·intro i e2 j y he2 hy
       rw [List.getElem?_set] at he2
       split at he2
       ·rename_i hii
        (try rw [if_pos hi] at he2);cases he2
        subst hii
        rw [Nat.add_zero,hovg]
        rcases hget j y hy with ⟨a1,a2,a3⟩ | ⟨a1,a2⟩
        ·rw [if_pos (by omega)]
         have:off/sz*sz+j-off=j-off%sz:=by omega
         rw [this]
         obtain ⟨u,hu⟩:=zy0 vx.cells (j-off%sz) (by rw [hcn];exact qd0 a3)
         exact ⟨u,by simpa using hu,hc1 _ u hu,hcR _ u y hu a3⟩
        ·rw [if_neg (by omega)]
         exact hrow.cells _ _ _ _ hat a2
       ·rename_i hii
        rw [Nat.add_zero,hovg]
        have hj:j<sz:=by rw [← (hrow.elems i e2 he2).1];exact qd0 hy
        rw [if_neg]
        ·exact hrow.cells _ _ _ _ he2 hy
        ·intro hc
         have hq:i*sz+j-off/sz*sz<sz:=by omega
         have:=yE1 (i:=i) (i':=off/sz) (j:=j) (j':=i*sz+j-off/sz*sz) (sz:=sz) (fun e=>hii e.symm) hj hq
         omega
      ·intro o v hv hc
       have:=hrow.shut o v hv
       rw [Nat.add_zero,hovg,if_neg (by omega)];exact hc
    ·cases hl2
   ·cases hl2
  ·rename_i hr
   exact absurd hr (hno _ _ _ rfl _ _ _ _ _ _)
  ·cases hl
 | _=>cases hl
theorem zM2 {P:Program} {h h':Heap} {t:TypeId} {r ver off ver' ty sz pub:Nat} {l:List V} {x v:V} (hg:h.get r=.rowS ver' ty sz pub l x) (hs:store P h t (.ptr r ver off) v=some h') :
 ∃ l' x',h'=h.set r (.rowS ver ty sz pub l' x')∧store P (h.set r (.row ver' ty sz pub none (l++[x]))) t (.ptr r ver off) v=some ((h.set r (.row ver' ty sz pub none (l++[x]))).set r (.row ver ty sz pub none (l'++[x']))):=by
 simp only [store,hg] at hs
 obtain ⟨hb,hs⟩:=qf0 hs rfl
 simp only [store,Heap.get_set,if_true]
 rw [hb]
 simp only [cond_true]
 split at hs
 ·rename_i e he
  try simp only [he]
  split at hs
  ·rename_i e' hp
   try simp only [hp]
   split at hs
   ·rename_i p hl
    cases hs
    exact ⟨p.1,p.2,rfl,by rw [← yV1 hl]⟩
   ·cases hs
  ·cases hs
 ·cases hs
theorem zL2 {P:Program} {B:Ns} {w0:World} {g:Gh} {h h':Heap} {w:World} (hW:W B w0 g h w) {t:TypeId} {a x:V} {va vx:Value} (hR:R g va a) (hx:R g vx x) (hl:store P h t a x=some h') :
 ∃ w',(Instr.storeAt t va vx).run P w=.ok () w'∧W B w0 g h' w':=by
 by_cases hs:∃ r ver off v' ty sz pub l y,a=.ptr r ver off∧h.get r=.rowS v' ty sz pub l y
 ·obtain ⟨r,ver,off,v',ty,sz,pub,l,y,rfl,hg⟩:=hs
  obtain ⟨l',x',rfl,hs⟩:=zM2 hg hl
  have hW2:=Kh0 hW r
  unfold xpH at hW2
  rw [hg] at hW2
  obtain ⟨w',h1,h2⟩:=QD1 hW2 hR hx hs (fun r' ver' off' e v2 ty2 sz2 pub2 l2 x2 e2=>by
   cases e
   rw [Heap.get_set,if_pos rfl] at e2;cases e2)
  have h3:=h2.setO (r:=r) (o:=.rowS ver ty sz pub l' x') (fun b hb=>by have:=h2.obj r b hb;rw [Heap.get_set,if_pos rfl] at this;exact this) (h2.lt (by rw [Heap.get_set,if_pos rfl];simp)) (by rw [Heap.get_set,if_pos rfl];rfl)
  refine ⟨w',h1,h3.congrH (by simp only [Heap.n_set]) fun q=>?_⟩
  simp only [Heap.get_set]
  split <;> rfl
 ·exact QD1 hW hR hx hl fun r ver off e v' ty sz pub l x e2=>hs ⟨r,ver,off,v',ty,sz,pub,l,x,e,e2⟩
theorem JE0 {α:Type} {b:Bool} {x:Option α} {r:α} (h:Bool.rec (motive:=fun _=>Option α) x none b=some r):b=false∧x=some r:=by
 cases b with
 | false=>exact ⟨rfl,h⟩
 | true=>cases h
theorem R.int {g:Gh} {k:IntKind} {n:Int}:R g (.int k n) (.int k n):=.gnd (.int k n)
theorem R.bool {g:Gh} {b:Bool}:R g (.bool b) (.bool b):=.gnd (.bool b)
theorem R.str {g:Gh} {s:ByteArray}:R g (.string s) (.str s.data.toList):=.gnd (.str rfl)
theorem R.str' {g:Gh} {s:ByteArray} {l:List UInt8} (h:s.data.toList=l):R g (.string s) (.str l):=.gnd (.str h)
theorem yJ1 {P:Program} {g:Gh} {w:World} {t:TypeId} {op:BinOp} {k k':IntKind} {a b:Int} {z:V} (h:qF0 op k a b=some z) (hk:jm0 op=true∨k=k') :
 ∃ v,(Go.binOp op t (.int k a) (.int k' b)).run P w=.ok v w∧R g v z:=by
 have hk':jm0 op=false→k=k':=fun e=>by
  rcases hk with h | h
  ·rw [e] at h;cases h
  ·exact h
 cases op with
 | add=>have:=hk' rfl;subst this;cases (Qj0 k (a+b)).symm.trans h;exact ⟨_,by simp [Go.binOp,Op.intArith],.int⟩
 | sub=>have:=hk' rfl;subst this;cases (Qj0 k (a-b)).symm.trans h;exact ⟨_,by simp [Go.binOp,Op.intArith],.int⟩
 | mul=>have:=hk' rfl;subst this;cases (Qj0 k (a*b)).symm.trans h;exact ⟨_,by simp [Go.binOp,Op.intArith],.int⟩
 | quo =>
  have:=hk' rfl;subst this
  obtain ⟨h0,h⟩:=JE0 h
  have hb:b≠0:=fun e=>by rw [(ZF0 b 0).2 e] at h0;cases h0
  cases (Qj0 k (a.tdiv b)).symm.trans h
  exact ⟨_,by simp [Go.binOp,Op.intDiv,hb],.int⟩
 | rem =>
  have:=hk' rfl;subst this
  obtain ⟨h0,h⟩:=JE0 h
  have hb:b≠0:=fun e=>by rw [(ZF0 b 0).2 e] at h0;cases h0
  cases (yw0 k (a.tmod b)).symm.trans h
  exact ⟨_,by simp [Go.binOp,Op.intDiv,hb],.int⟩
 | and=>have:=hk' rfl;subst this;cases (yw0 k _).symm.trans h;exact ⟨_,by simp [Go.binOp,Op.intBits],.int⟩
 | or=>have:=hk' rfl;subst this;cases (yw0 k _).symm.trans h;exact ⟨_,by simp [Go.binOp,Op.intBits],.int⟩
 | xor=>have:=hk' rfl;subst this;cases (yw0 k _).symm.trans h;exact ⟨_,by simp [Go.binOp,Op.intBits],.int⟩
 | andNot=>have:=hk' rfl;subst this;cases (yw0 k _).symm.trans h;exact ⟨_,by simp [Go.binOp,Op.intBits],.int⟩
 | shl =>
  obtain ⟨h0,h⟩:=JE0 h
  have hb:¬ b<0:=fun e=>by rw [(QM0 b 0).2 e] at h0;cases h0
  cases (Qj0 k _).symm.trans h
  exact ⟨_,by simp [Go.binOp,Op.shift,hb],.int⟩
 | shr =>
  obtain ⟨h0,h⟩:=JE0 h
  have hb:¬ b<0:=fun e=>by rw [(QM0 b 0).2 e] at h0;cases h0
  cases (yw0 k _).symm.trans h
  exact ⟨_,by simp [Go.binOp,Op.shift,hb],.int⟩
 | eql=>have:=hk' rfl;subst this;cases h;exact ⟨.bool (a == b),by simp [Go.binOp,Op.intCmp],by rw [QL0];exact .bool⟩
 | neq=>have:=hk' rfl;subst this;cases h;exact ⟨.bool (a != b),by simp [Go.binOp,Op.intCmp],by rw [QL0];exact .bool⟩
 | lss=>have:=hk' rfl;subst this;cases h;exact ⟨.bool (decide (a<b)),by simp [Go.binOp,Op.intCmp],by rw [ZG0];exact .bool⟩
 | leq=>have:=hk' rfl;subst this;cases h;exact ⟨.bool (decide (a≤b)),by simp [Go.binOp,Op.intCmp],by rw [Xh0];exact .bool⟩
 | gtr=>have:=hk' rfl;subst this;cases h;exact ⟨.bool (decide (b<a)),by simp [Go.binOp,Op.intCmp],by rw [ZG0];exact .bool⟩
 | geq=>have:=hk' rfl;subst this;cases h;exact ⟨.bool (decide (b≤a)),by simp [Go.binOp,Op.intCmp],by rw [Xh0];exact .bool⟩
theorem JG0 (a b:List UInt8):Zn0 a b=Op.bytesLess a b:=by
 induction a generalizing b with
 | nil=>cases b <;> rfl
 | cons x xs ih =>
  cases b with
  | nil=>rfl
  | cons y ys =>
   show (bif Nat.blt x.toNat y.toNat then true else bif zE0 x y then Zn0 xs ys else false)=(decide (x<y)||(x == y&&Op.bytesLess xs ys))
   rw [ih]
   have h1:Nat.blt x.toNat y.toNat=decide (x<y):=by
    rw [Bool.eq_iff_iff];simp [Nat.blt_eq,UInt8.lt_iff_toNat_lt]
   have h2:zE0 x y=(x == y):=by rw [Bool.eq_iff_iff,Kr0];simp
   rw [h1,h2]
   cases decide (x<y) <;> cases (x == y) <;> rfl
theorem qV1 (a b:List UInt8):(Op.bytesLess a b||(a == b))=!(Op.bytesLess b a):=by
 induction a generalizing b with
 | nil=>cases b <;> rfl
 | cons x xs ih =>
  cases b with
  | nil=>rfl
  | cons y ys =>
   simp only [Op.bytesLess,List.cons_beq_cons]
   have hi:=ih ys
   by_cases h1:x<y
   ·have h2:¬ y<x:=by rw [UInt8.lt_iff_toNat_lt] at *;omega
    have h3:(y == x)=false:=by
     rw [Bool.eq_false_iff];intro e;have:=eq_of_beq e;subst this;rw [UInt8.lt_iff_toNat_lt] at h1;omega
    simp [h1,h2,h3]
   ·by_cases h2:y<x
    ·have h3:(x == y)=false:=by
      rw [Bool.eq_false_iff];intro e;have:=eq_of_beq e;subst this;rw [UInt8.lt_iff_toNat_lt] at h2;omega
     simp [h1,h2,h3]
    ·have:x=y:=by
      rw [UInt8.lt_iff_toNat_lt] at h1 h2
      exact UInt8.toNat_inj.1 (by omega)
     subst this
     simp [hi]
theorem toList_eq (s:ByteArray):s.toList=s.data.toList:=by
 rw [ByteArray.toList_eq]
theorem Zh1 (a b:ByteArray):(a++b).data.toList=a.data.toList++b.data.toList:=by simp
theorem Zg0 (a b:List UInt8):zC0 a b=(a == b):=by rw [Bool.eq_iff_iff,Jp0];simp
theorem zQ2 {P:Program} {g:Gh} {w:World} {t:TypeId} {op:BinOp} {s u:ByteArray} {z:V} (h:jy0 op s.data.toList u.data.toList=some z) :
 ∃ v,(Go.binOp op t (.string s) (.string u)).run P w=.ok v w∧R g v z:=by
 have hsz:∀ x:ByteArray,x.data.toList.length=x.size:=fun x=>by rw [Array.length_toList];rfl
 cases op with
 | add =>
  obtain ⟨hb,h⟩:=qf0 h rfl
  cases h
  rw [Nat.ble_eq,List.len_eq,List.len_eq,hsz,hsz] at hb
  change s.size+u.size≤qL0 at hb
  unfold qL0 at hb
  refine ⟨.string (s++u),?_,.str' (by rw [Zh1,List.app_eq])⟩
  simp only [Go.binOp,Op.stringOp]
  rw [if_neg (by simp [IntKind.max,IntKind.signed,IntKind.bits];omega)]
  rfl
 | eql=>cases h;exact ⟨_,by simp only [Go.binOp,Op.stringOp,toList_eq];rfl,by rw [Zg0];exact .bool⟩
 | neq=>cases h;exact ⟨_,by simp only [Go.binOp,Op.stringOp,toList_eq];rfl,by rw [Zg0];exact .bool⟩
 | lss=>cases h;exact ⟨_,by simp only [Go.binOp,Op.stringOp,toList_eq];rfl,by rw [JG0];exact .bool⟩
 | leq=>cases h;exact ⟨_,by simp only [Go.binOp,Op.stringOp,toList_eq];rfl,by rw [JG0,← qV1];exact .bool⟩
 | gtr =>
  cases h
  refine ⟨_,by simp only [Go.binOp,Op.stringOp,toList_eq];rfl,?_⟩
  rw [JG0,qV1,Bool.not_not];exact .bool
 | geq=>cases h;exact ⟨_,by simp only [Go.binOp,Op.stringOp,toList_eq];rfl,by rw [JG0];exact .bool⟩
 | _=>cases h
theorem yd2 {P:Program} {g:Gh} {w:World} {op:UnOp} {v:Value} {x z:V} (hR:R g v x) (h:unOp op x=some z) :
 ∃ u,(Op.unary op v).run P w=.ok u w∧R g u z:=by
 cases x with
 | int k n =>
  have:=hR.int_inv;subst this
  cases op with
  | neg=>cases (Qj0 k (0-n)).symm.trans h;exact ⟨.int k (k.wrap (0-n)),by simp [Op.unary,Op.intArith],.int⟩
  | xor =>
   have h':qF0 .xor k (if k.signed then -1 else k.max) n=some z:=h
   cases (yw0 k _).symm.trans h'
   exact ⟨_,by simp [Op.unary,Op.intBits],.int⟩
  | _=>cases h
 | bool b =>
  have:=hR.bool_inv;subst this
  cases op with
  | not=>cases h;exact ⟨_,by simp [Op.unary],.bool⟩
  | _=>cases h
 | _=>cases h
theorem jR0 {f:V→Option Bool} {x y:V} {b:Bool} (h:Zx0 f x y=some b):∃ p q,f x=some p∧f y=some q∧((p=true∧b=q)∨(p=false∧q=true∧b=false)):=by
 unfold Zx0 at h
 cases hx:f x with
 | none=>rw [hx] at h;cases h
 | some p =>
  rw [hx] at h
  cases hy:f y with
  | none=>rw [hy] at h;cases h
  | some q =>
   rw [hy] at h
   refine ⟨p,q,rfl,rfl,?_⟩
   cases p with
   | true=>simp at h;exact .inl ⟨rfl,h.symm⟩
   | false=>cases q <;> simp at h;exact .inr ⟨rfl,rfl,h⟩
theorem Gj0 {g:Gh} {v:Value} {x:V} {p:Bool} (hR:R g v x) (h:yN1 x=some p):(p=true∧v=.slice none 0 0)∨(p=false∧∃ a n c,v=.slice (some a) n c):=by
 cases x with
 | nils=>cases h;exact .inl ⟨rfl,hR.nils_inv⟩
 | sl=>cases h;obtain ⟨a,c,_,rfl,_⟩:=hR.sl_inv;exact .inr ⟨rfl,_,_,_,rfl⟩
 | gsl=>cases h;have h':=hR.gsl_inv;cases h';exact .inr ⟨rfl,_,_,_,rfl⟩
 | _=>cases h
theorem Gi0 {g:Gh} {v:Value} {x:V} {p:Bool} (hR:R g v x) (h:yM1 x=some p):(p=true∧v=.map none)∨(p=false∧∃ a,v=.map (some a)):=by
 cases x with
 | nilm=>cases h;exact .inl ⟨rfl,hR.nilm_inv⟩
 | map=>cases h;obtain ⟨b,_,rfl,_⟩:=hR.map_inv;exact .inr ⟨rfl,_,rfl⟩
 | gmap=>cases h;have h':=hR.gmap_inv;cases h';exact .inr ⟨rfl,_,rfl⟩
 | _=>cases h
theorem Xg1 {g:Gh} {v:Value} {f:Fn} {xs ys:List V} (hR:R g v (.func f xs ys)):∃ f' a b,v=.func f' a b:=by
 cases f with
 | yield l=>obtain ⟨b,k,rfl,_⟩:=hR.yield_inv;exact ⟨_,_,_,rfl⟩
 | func f=>obtain ⟨a,b,rfl,_⟩:=hR.func_inv (fun l=>by simp);exact ⟨_,_,_,rfl⟩
 | method f=>obtain ⟨a,b,rfl,_⟩:=hR.func_inv (fun l=>by simp);exact ⟨_,_,_,rfl⟩
 | methodOf t f=>obtain ⟨a,b,rfl,_⟩:=hR.func_inv (fun l=>by simp);exact ⟨_,_,_,rfl⟩
 | via t p f q=>obtain ⟨a,b,rfl,_⟩:=hR.func_inv (fun l=>by simp);exact ⟨_,_,_,rfl⟩
theorem Gg0 {g:Gh} {v:Value} {x:V} {p:Bool} (hR:R g v x) (h:yK1 x=some p):(p=true∧v=.nilFunc)∨(p=false∧∃ f a b,v=.func f a b):=by
 cases x with
 | nilf=>cases h;exact .inl ⟨rfl,hR.nilf_inv⟩
 | func=>cases h;exact .inr ⟨rfl,Xg1 hR⟩
 | _=>cases h
theorem Gh0 {g:Gh} {v:Value} {x:V} {p:Bool} (hR:R g v x) (h:yL1 x=some p):(p=true∧v=.nilIface)∨(p=false∧∃ t a,v=.iface t a):=by
 cases x with
 | nili=>cases h;exact .inl ⟨rfl,hR.nili_inv⟩
 | iface=>cases h;obtain ⟨y,rfl,_⟩:=hR.iface_inv;exact .inr ⟨rfl,_,_,rfl⟩
 | _=>cases h
theorem qQ1 (a b:Bool):Bool.rec (motive:=fun _=>Bool) (!b) b a=(a == b):=by cases a <;> cases b <;> rfl
theorem YJ1 {P:Program} {g:Gh} {w:World} {t:TypeId} {d:Nat} {vx vy:Value} {x y:V} {b:Bool} (ht:zf0 P t x=true) (hx:R g vx x) (hy:R g vy y) (h:eqS x y=some b) :
 (Op.equalIn (d+1) t vx vy).run P w=.ok b w:=by
 unfold zf0 at ht
 cases x with
 | int k a =>
  cases y with
  | int k' b' =>
   have:=hx.int_inv;subst this
   have:=hy.int_inv;subst this
   obtain ⟨hk',h⟩:=qf0 h rfl
   cases h
   have:=(Qa0 _ _).1 hk';subst this
   split at ht
   ·rename_i hu;rw [run_equalIn_int w d t k _ a b' hu,QL0]
   ·cases ht
   ·cases ht
   ·cases ht
  | _=>cases h
 | bool a =>
  cases y with
  | bool b' =>
   have:=hx.bool_inv;subst this
   have:=hy.bool_inv;subst this
   cases h
   split at ht
   ·cases ht
   ·cases ht
   ·rename_i hu;rw [run_equalIn_bool' w d t a b' hu,qQ1]
   ·cases ht
  | _=>cases h
 | str a =>
  cases y with
  | str b' =>
   obtain ⟨s,rfl,rfl⟩:=hx.str_inv
   obtain ⟨s',rfl,rfl⟩:=hy.str_inv
   cases h
   split at ht
   ·cases ht
   ·rename_i hu;rw [run_equalIn_string w d t s s' hu,Zg0,toList_eq,toList_eq]
   ·cases ht
   ·cases ht
  | _=>cases h
 | _=>cases h
theorem JT1 {P:Program} {t:TypeId} {x:V} (h:zf0 P t x=true):jH0 P t=some false:=by
 unfold zf0 at h
 unfold jH0
 split at h <;> first | (rename_i hu;simp [hu];done) | cases h
theorem Qi1 {P:Program} {w:World} {t:TypeId} {cs:Array Value} {off:Nat} {v:Value} (ht:jH0 P t=some false) (h:cs[off]?=some v):(part t cs off).run P w=.ok v w:=by
 simp [part,Yo0 ht,h]
theorem zu1 {P:Program} {g:Gh} {w:World} {d:Nat} {xs ys:List V} {cx cy:Array Value} (hx:Rs' g cx xs) (hy:Rs' g cy ys):∀ (fs:List Field) (b:Bool),eqFields P fs xs ys=some b →
 (Op.eqFields (d+1) cx cy fs).run P w=.ok b w
 | [],b,h=>by cases h;rfl
 | f::fs,b,h=>by
  change (match List.at xs f.offset with
  | none=>none
  | some x=>match List.at ys f.offset with
   | none=>none
   | some y => bif zf0 P f.type x && !(f.name == "_") then (match eqS x y with
    | none=>none
    | some true=>eqFields P fs xs ys
    | some false=>match eqFields P fs xs ys with
     | none=>none
     | some _=>some false) else none)=some b at h
  rw [List.at_eq,List.at_eq] at h
  cases h1:xs[f.offset]? with
  | none=>rw [h1] at h;cases h
  | some x =>
   cases h2:ys[f.offset]? with
   | none=>rw [h1,h2] at h;cases h
   | some y =>
    rw [h1,h2] at h
    obtain ⟨hb,h⟩:=qf0 h rfl
    simp only [Bool.and_eq_true,Bool.not_eq_true',beq_eq_false_iff_ne] at hb
    obtain ⟨v,hv,hR⟩:=hx.at h1
    obtain ⟨u,hu,hR'⟩:=hy.at h2
    have hp:=JT1 hb.1
    cases h3:eqS x y with
    | none=>rw [h3] at h;cases h
    | some c =>
     rw [h3] at h
     have hrun:=YJ1 (P:=P) (w:=w) (d:=d) hb.1 hR hR' h3
     simp only [Op.eqFields]
     rw [if_pos hb.2]
     simp only [Sem.run_bind,Qi1 hp hv,Qi1 hp hu,Result.andThen_ok,hrun]
     cases c with
     | true =>
      simp only [Bool.not_true,Bool.false_eq_true,if_false]
      exact zu1 hx hy fs b h
     | false =>
      simp only [Bool.not_false,if_true]
      cases h4:eqFields P fs xs ys with
      | none=>rw [h4] at h;cases h
      | some q=>rw [h4] at h;cases h;rfl
theorem zL0 {P:Program} {w:World} (op:BinOp) (t:TypeId) (X Y:Operand) (a b:Value) (h1:a=.nilIface→b=.nilIface→False) (h2:∀ x y,a=.agg x→b=.agg y→False):(eqGuard op t X Y a b).run P w=.ok () w:=by
 unfold eqGuard
 split <;> split
 all_goals first | rfl | (split <;> first | rfl | exact (h1 rfl rfl).elim | exact (h2 _ _ rfl rfl).elim)
theorem YI1 {P:Program} {w:World} (op:BinOp) (t:TypeId) (X Y:Operand) (h:(qP0 X||qP0 Y)=true):(eqGuard op t X Y .nilIface .nilIface).run P w=.ok () w:=by
 unfold eqGuard
 split <;> split
 all_goals first | rfl | (simp only;rw [if_pos (by cases X <;> cases Y <;> first | rfl | cases h)];rfl)
set_option maxHeartbeats 1000000 in
theorem YK1 {P:Program} {B:Ns} {w0:World} {g:Gh} {h:Heap} {w:World} (hW:W B w0 g h w) {t:TypeId} {X Y:Operand} {op:BinOp} {vx vy:Value} {x y:V} {b:Bool}
 (hx:R g vx x) (hy:R g vy y) (he:eqT P h t (qP0 X||qP0 Y) x y=some b) (d:Nat) :
 (eqGuard op t X Y vx vy).run P w=.ok () w∧(Op.equalIn (d+2) t vx vy).run P w=.ok b w:=by
 unfold eqT at he
 split at he
 ·cases he
 ·rename_i D hu
  split at he
  ·split at he
   ·rename_i a
    split at he
    ·rename_i b'
     cases he
     have:=hx.bool_inv;subst this
     have:=hy.bool_inv;subst this
     exact ⟨zL0 _ _ _ _ _ _ (by simp) (by simp),by rw [run_equalIn_bool' w _ t a b' hu,qQ1]⟩
    ·cases he
   ·cases he
  ·rename_i e
   split at he
   ·rename_i inf hinf
    unfold KL0 at he
    split at he
    ·have:=hx.nilp_inv;subst this
     split at he <;> first | cases he | skip
     ·have:=hy.nilp_inv;subst this
      exact ⟨zL0 _ _ _ _ _ _ (by simp) (by simp),by rw [Op.equalIn,Sem.run_bind,run_underlying hu,Result.andThen_ok];rfl⟩
     ·obtain ⟨a,_,rfl,_⟩:=hy.ptr_inv
      exact ⟨zL0 _ _ _ _ _ _ (by simp) (by simp),by rw [Op.equalIn,Sem.run_bind,run_underlying hu,Result.andThen_ok];rfl⟩
     ·have h':=hy.gptr_inv
      cases h'
      exact ⟨zL0 _ _ _ _ _ _ (by simp) (by simp),by rw [Op.equalIn,Sem.run_bind,run_underlying hu,Result.andThen_ok];rfl⟩
    ·rename_i r v o
     obtain ⟨a,ver',rfl,hv,hle,hp⟩:=hx.ptr_inv
     split at he
     ·cases he
      have:=hy.nilp_inv;subst this
      exact ⟨zL0 _ _ _ _ _ _ (by simp) (by simp),by rw [Op.equalIn,Sem.run_bind,run_underlying hu,Result.andThen_ok];rfl⟩
     ·rename_i r' v' o'
      obtain ⟨a',ver'',rfl,hv',hle',hp'⟩:=hy.ptr_inv
      split at he
      ·rename_i ver ty sz pub cap es hr
       obtain ⟨hb,he⟩:=qf0 he rfl
       cases he
       simp only [Bool.and_eq_true,Nat.beq_eq] at hb
       obtain ⟨⟨⟨rfl,rfl⟩,rfl⟩,rfl⟩:=hb
       obtain ⟨hv2,b,k,C,fr,hm,hrow,_⟩:=hW.row hr
       rw [hv2] at hv hv';cases hv;cases hv'
       obtain ⟨k1,s1,m1,o1,p1⟩:=hp rfl
       obtain ⟨k2,s2,m2,o2,p2⟩:=hp' rfl
       have hab:a=a':=by
        rw [Addr.eta p1,Addr.eta p2,o1,o2]
        rw [m1] at m2
        simp only [Option.some.injEq,Prod.mk.injEq] at m2
        rw [m2.1]
       subst hab
       refine ⟨zL0 _ _ _ _ _ _ (by simp) (by simp),?_⟩
       simp only [Op.equalIn,Sem.run_bind,run_underlying hu,Result.andThen_ok,za0 hinf,Sem.run_ite]
       split
       ·simp [sameAddr]
       ·simp
      ·cases he
     ·cases he
    ·have h':=hx.gptr_inv
     cases h'
     split at he
     ·cases he
      have:=hy.nilp_inv;subst this
      exact ⟨zL0 _ _ _ _ _ _ (by simp) (by simp),by rw [Op.equalIn,Sem.run_bind,run_underlying hu,Result.andThen_ok];rfl⟩
     ·cases he
    ·cases he
   ·cases he
  ·obtain ⟨p,q,hp,hq,hpq⟩:=jR0 he
   rcases Gj0 hx hp with ⟨rfl,rfl⟩ | ⟨rfl,a,n,c,rfl⟩ <;> rcases Gj0 hy hq with ⟨rfl,rfl⟩ | ⟨rfl,a',n',c',rfl⟩ <;> simp at hpq <;> subst hpq <;>
    exact ⟨zL0 _ _ _ _ _ _ (by simp) (by simp),by rw [Op.equalIn,Sem.run_bind,run_underlying hu,Result.andThen_ok];rfl⟩
  ·obtain ⟨p,q,hp,hq,hpq⟩:=jR0 he
   rcases Gi0 hx hp with ⟨rfl,rfl⟩ | ⟨rfl,a,rfl⟩ <;> rcases Gi0 hy hq with ⟨rfl,rfl⟩ | ⟨rfl,a',rfl⟩ <;> simp at hpq <;> subst hpq <;>
    exact ⟨zL0 _ _ _ _ _ _ (by simp) (by simp),by rw [Op.equalIn,Sem.run_bind,run_underlying hu,Result.andThen_ok];rfl⟩
  ·obtain ⟨p,q,hp,hq,hpq⟩:=jR0 he
   rcases Gg0 hx hp with ⟨rfl,rfl⟩ | ⟨rfl,f,a,c,rfl⟩ <;> rcases Gg0 hy hq with ⟨rfl,rfl⟩ | ⟨rfl,f',a',c',rfl⟩ <;> simp at hpq <;> subst hpq <;>
    exact ⟨zL0 _ _ _ _ _ _ (by simp) (by simp),by rw [Op.equalIn,Sem.run_bind,run_underlying hu,Result.andThen_ok];rfl⟩
  ·split at he
   ·obtain ⟨hc,he⟩:=qf0 he rfl
    cases he
    have:=hx.nili_inv;subst this
    have:=hy.nili_inv;subst this
    exact ⟨YI1 op t X Y hc,by rw [Op.equalIn,Sem.run_bind,run_underlying hu,Result.andThen_ok];rfl⟩
   ·rename_i hnn
    obtain ⟨p,q,hp,hq,hpq⟩:=jR0 he
    rcases Gh0 hx hp with ⟨rfl,rfl⟩ | ⟨rfl,f,a,rfl⟩ <;> rcases Gh0 hy hq with ⟨rfl,rfl⟩ | ⟨rfl,f',a',rfl⟩ <;> simp at hpq <;> subst hpq
    ·exfalso
     cases x <;> first | cases hp | skip
     cases y <;> first | cases hq | skip
     exact hnn rfl rfl
    ·exact ⟨zL0 _ _ _ _ _ _ (by simp) (by simp),by rw [Op.equalIn,Sem.run_bind,run_underlying hu,Result.andThen_ok];rfl⟩
    ·exact ⟨zL0 _ _ _ _ _ _ (by simp) (by simp),by rw [Op.equalIn,Sem.run_bind,run_underlying hu,Result.andThen_ok];rfl⟩
  ·rename_i fs
   cases hst:P.stoodInHeld t||P.eqGuardType P.depth t with
   | true=>rw [hst] at he;cases he
   | false =>
    rw [hst] at he
    simp only [Bool.or_eq_false_iff] at hst
    simp only [cond_false] at he
    split at he
    ·rename_i xs
     split at he
     ·rename_i ys
      obtain ⟨cx,rfl,hx1,hx2,hx3⟩:=hx.agg_inv
      obtain ⟨cy,rfl,hy1,hy2,hy3⟩:=hy.agg_inv
      refine ⟨run_eqGuard_agg w op t X Y cx cy hst.2,?_⟩
      have hf:P.fieldsOf t=fs:=by simp [Program.fieldsOf,hu]
      rw [run_equalIn_struct w (d+1) t cx cy (by rw [hf];exact hu) hst.1,hf]
      exact zu1 (d:=d) ⟨hx1,hx3⟩ ⟨hy1,hy3⟩ _ _ he
     ·cases he
    ·cases he
  ·cases he
theorem zw1 {P:Program} {B:Ns} {w0:World} {g:Gh} {h:Heap} {w:World} (hW:W B w0 g h w) {t:TypeId} {X Y:Operand} {op:BinOp} {vx vy:Value} {x y:V} {b:Bool}
 (hx:R g vx x) (hy:R g vy y) (he:eqT P h t (qP0 X||qP0 Y) x y=some b) :
 (eqGuard op t X Y vx vy).run P w=.ok () w∧(Op.equal t vx vy).run P w=.ok b w:=YK1 hW hx hy he 9998
set_option maxHeartbeats 1000000 in
theorem Zt1 {P:Program} {B:Ns} {w0:World} {g:Gh} {h:Heap} {w:World} (hW:W B w0 g h w) {t:TypeId} {X Y:Operand} {op:BinOp} {vx vy:Value} {x y z:V}
 (hx:R g vx x) (hy:R g vy y) (he:binOp P h t (qP0 X||qP0 Y) op x y=some z) :
 ∃ v,(do eqGuard op t X Y vx vy;Go.binOp op t vx vy:Sem Value).run P w=.ok v w∧R g v z:=by
 have heq:∀ {x:V},R g vx x→(∀ k n,x≠.int k n)→(∀ s,x≠.str s)→eqOp P h t (qP0 X||qP0 Y) op x y=some z →
  ∃ v,(do eqGuard op t X Y vx vy;Go.binOp op t vx vy:Sem Value).run P w=.ok v w∧R g v z:=by
  intro x hx hi hs he
  unfold eqOp at he
  have shape:∀ b,eqT P h t (qP0 X||qP0 Y) x y=some b→(∀ k a,vx≠.int k a)∧(∀ s,vx≠.string s)∧(∀ k a,vx≠.float k a)∧(∀ k a c,vx≠.complex k a c):=by
   intro b hb
   unfold eqT at hb
   split at hb
   ·cases hb
   ·split at hb
    ·split at hb
     ·have:=hx.bool_inv;subst this;simp
     ·cases hb
    ·split at hb
     ·unfold KL0 at hb
      split at hb
      ·have:=hx.nilp_inv;subst this;simp
      ·obtain ⟨a,_,rfl,_⟩:=hx.ptr_inv;simp
      ·have h':=hx.gptr_inv;cases h';simp
      ·cases hb
     ·cases hb
    ·obtain ⟨p,q,hp,hq,hpq⟩:=jR0 hb
     rcases Gj0 hx hp with ⟨rfl,rfl⟩ | ⟨rfl,a,n,c,rfl⟩ <;> simp
    ·obtain ⟨p,q,hp,hq,hpq⟩:=jR0 hb
     rcases Gi0 hx hp with ⟨rfl,rfl⟩ | ⟨rfl,a,rfl⟩ <;> simp
    ·obtain ⟨p,q,hp,hq,hpq⟩:=jR0 hb
     rcases Gg0 hx hp with ⟨rfl,rfl⟩ | ⟨rfl,a,n,c,rfl⟩ <;> simp
    ·split at hb
     ·have:=hx.nili_inv;subst this;simp
     ·obtain ⟨p,q,hp,hq,hpq⟩:=jR0 hb
      rcases Gh0 hx hp with ⟨rfl,rfl⟩ | ⟨rfl,a,n,rfl⟩ <;> simp
    ·cases hst:P.stoodInHeld t||P.eqGuardType P.depth t with
     | true=>rw [hst] at hb;cases hb
     | false =>
      rw [hst] at hb
      simp only [cond_false] at hb
      split at hb
      ·obtain ⟨cx,rfl,_⟩:=hx.agg_inv;simp
      ·cases hb
    ·cases hb
  cases op with
  | eql =>
   simp only at he
   cases hb:eqT P h t (qP0 X||qP0 Y) x y with
   | none=>rw [hb] at he;cases he
   | some b =>
    rw [hb] at he;cases he
    obtain ⟨h1,h2⟩:=zw1 (op:=.eql) hW hx hy hb
    obtain ⟨s1,s2,s3,s4⟩:=shape b hb
    refine ⟨.bool b,?_,.bool⟩
    simp only [Sem.run_bind,h1,Result.andThen_ok]
    cases vx <;> first | exact absurd rfl (s1 _ _) | exact absurd rfl (s2 _) | exact absurd rfl (s3 _ _) | exact absurd rfl (s4 _ _ _) | (simp only [Go.binOp,Sem.run_bind,h2,Result.andThen_ok,Sem.run_pure])
  | neq =>
   simp only at he
   cases hb:eqT P h t (qP0 X||qP0 Y) x y with
   | none=>rw [hb] at he;cases he
   | some b =>
    rw [hb] at he;cases he
    obtain ⟨h1,h2⟩:=zw1 (op:=.neq) hW hx hy hb
    obtain ⟨s1,s2,s3,s4⟩:=shape b hb
    refine ⟨.bool (!b),?_,.bool⟩
    simp only [Sem.run_bind,h1,Result.andThen_ok]
    cases vx <;> first | exact absurd rfl (s1 _ _) | exact absurd rfl (s2 _) | exact absurd rfl (s3 _ _) | exact absurd rfl (s4 _ _ _) | (simp only [Go.binOp,Sem.run_bind,h2,Result.andThen_ok,Sem.run_pure])
  | _=>cases he
 cases x with
 | int k a =>
  cases y with
  | int k' b =>
   have:=hx.int_inv;subst this
   have:=hy.int_inv;subst this
   obtain ⟨hk,he⟩:=qf0 he rfl
   obtain ⟨v,h1,h2⟩:=yJ1 (P:=P) (g:=g) (w:=w) (t:=t) he (by
    rcases Bool.or_eq_true _ _ ▸ hk with h | h
    ·exact .inl h
    ·exact .inr ((Qa0 _ _).1 h))
   refine ⟨v,?_,h2⟩
   have hg:(eqGuard op t X Y (.int k a) (.int k' b)).run P w=.ok () w:=zL0 _ _ _ _ _ _ (by simp) (by simp)
   simp only [Sem.run_bind,hg,Result.andThen_ok,h1]
  | _=>cases he
 | str a =>
  cases y with
  | str b =>
   obtain ⟨s,rfl,rfl⟩:=hx.str_inv
   obtain ⟨u,rfl,rfl⟩:=hy.str_inv
   obtain ⟨v,h1,h2⟩:=zQ2 (P:=P) (g:=g) (w:=w) (t:=t) he
   refine ⟨v,?_,h2⟩
   have hg:(eqGuard op t X Y (.string s) (.string u)).run P w=.ok () w:=zL0 _ _ _ _ _ _ (by simp) (by simp)
   simp only [Sem.run_bind,hg,Result.andThen_ok,h1]
  | _=>cases he
 | imod k m r =>
  obtain ⟨N,rfl,hN,rfl⟩:=hx.imod_inv
  have he:GV0 op k m (N%m) y=some z:=he
  unfold GV0 at he
  split at he
  ·split at he
   ·rename_i d k'
    have:=hy.int_inv;subst this
    obtain ⟨hb,he2⟩:=qf0 he rfl
    simp only [Bool.and_eq_true,Nat.blt_eq,Nat.beq_eq] at hb
    obtain ⟨⟨hk,hd⟩,hm⟩:=hb
    have:=(Qa0 _ _).1 hk;subst this
    rw [yw0] at he2
    have hmd:m%d=0:=hm
    have hrem:(N%m)%d=N%d:=Nat.mod_mod_of_dvd N (Nat.dvd_of_mod_eq_zero hmd)
    have h3:qF0 .rem k (N:Int) (d:Int)=some z:=by
     change remI k (N:Int) (d:Int)=some z
     unfold remI
     have h0:ieq (d:Int) 0=false:=by
      cases hq:ieq (d:Int) 0 with
      | false=>rfl
      | true=>rw [ZF0] at hq;omega
     rw [h0]
     change jU0 k ((N:Int).tmod (d:Int))=some z
     rw [yw0,← he2]
     have:(N:Int).tmod (d:Int)=Int.ofNat (Nat.mod (N%m) d):=by
      rw [show Nat.mod (N%m) d=(N%m)%d from rfl,hrem]
      exact (Int.ofNat_tmod N d).symm
     rw [this]
    obtain ⟨v,h1,h2⟩:=yJ1 (P:=P) (g:=g) (w:=w) (t:=t) h3 (.inr rfl)
    refine ⟨v,?_,h2⟩
    have hg:(eqGuard .rem t X Y (.int k (N:Int)) (.int k (d:Int))).run P w=.ok () w:=zL0 _ _ _ _ _ _ (by simp) (by simp)
    have h1:(Go.binOp .rem t (.int k (N:Int)) (.int k (d:Int))).run P w=.ok v w:=h1
    have e:((Int.ofNat d:Int))=(d:Int):=rfl
    rw [e]
    simp only [Sem.run_bind,hg,Result.andThen_ok,h1]
   ·cases he
  ·cases he
 | _=>exact heq hx (fun _ _ e=>by cases e) (fun _ e=>by cases e) he
theorem QY1 (f:V→Bool) (l:List V):allL f l=true↔∀ x∈l,f x=true:=by
 induction l with
 | nil=>simp only [List.not_mem_nil,false_implies,implies_true,iff_true];rfl
 | cons a l ih =>
  show (bif f a then allL f l else false)=true↔_
  cases h:f a with
  | true=>simp [ih,h]
  | false=>simp [h]
theorem GR.one {S:Nat→Nat→Option Value} {v:Value} {x:V} (h:GR S v x) (hs:x.single=true):v.oneCell'=true:=by
 cases h <;> first | rfl | (cases hs;done) | (rename_i h;cases h;rfl)
theorem jx1 {S:Nat→Nat→Option Value} (n:Nat):∀ {v:Value} {x:V},ofValue n v=some x→GR S v x:=by
 induction n with
 | zero=>intro v x h;cases h
 | succ n ih =>
  intro v x h
  cases v with
  | int k n=>cases h;exact .int _ _
  | bool b=>cases h;exact .bool _
  | string s=>cases h;exact .str rfl
  | pointer a=>cases a <;> cases h;exact .nilp
  | slice a n c =>
   cases a with
   | some _=>cases h
   | none =>
    obtain ⟨hb,h⟩:=qf0 h rfl
    cases h
    simp only [Bool.and_eq_true,Nat.beq_eq] at hb
    obtain ⟨rfl,rfl⟩:=hb
    exact .nils
  | map m=>cases m <;> cases h;exact .nilm
  | nilFunc=>cases h;exact .nilf
  | nilIface=>cases h;exact .nili
  | agg cs =>
   change (match qc0 (ofValue n) cs.toList with | some vs=>bif allL V.single vs then some (.agg vs) else none | none=>none)=some x at h
   cases hm:qc0 (ofValue n) cs.toList with
   | none=>rw [hm] at h;cases h
   | some vs =>
    rw [hm] at h
    obtain ⟨hb,h⟩:=qf0 h rfl
    cases h
    rw [QY1] at hb
    obtain ⟨h1,h2⟩:=zH0 hm
    have hrel:∀ (i:Nat) v x,cs[i]?=some v→vs[i]?=some x→GR S v x:=fun i v x hv hx=>by
     obtain ⟨y,hy,hf⟩:=h2 i v (by simpa using hv)
     rw [hy] at hx;cases hx
     exact ih hf
    refine .agg (by simpa using h1.symm) (fun i v hv=>?_) hrel
    obtain ⟨y,hy,hf⟩:=h2 i v (by simpa using hv)
    exact (ih hf).one (hb y (List.mem_of_getElem? hy))
  | iface t v =>
   change (match ofValue n v with | some v=>some (V.iface t v) | none=>none)=some x at h
   cases hm:ofValue n v with
   | none=>rw [hm] at h;cases h
   | some y=>rw [hm] at h;cases h;exact .iface (ih hm)
  | _=>cases h
def GlobOk (G:Nat→Option V) (S:Nat→Nat→Option Value):Prop:=∀ gl x,G gl=some x→GR S (.pointer (some ⟨gl,0,none⟩)) x
theorem GlobOk.mono {G:Nat→Option V} {S S':Nat→Nat→Option Value} (hS:∀ b o v,S b o=some v→S' b o=some v) (h:GlobOk G S):GlobOk G S':=fun gl x e=>(h gl x e).mono hS
structure Slots (g:Gh) (n:Nat) (tm:T V) (tmps:Array Value):Prop where
 size:tmps.size=n
 rel:∀ (i:Nat) v,tmps[i]?=some v→tm.get undef i=qz0∨R g v (tm.get undef i)
 none:∀ i,n≤i→tm.get undef i=undef∨tm.get undef i=qz0
theorem Slots.mono {g g':Gh} {n:Nat} {tm:T V} {tmps:Array Value} (h:Slots g n tm tmps) (hx:Ext g g'):Slots g' n tm tmps:=⟨h.size,fun i v e=>(h.rel i v e).imp id fun q=>q.mono hx,h.none⟩
theorem R.undef {g:Gh}:R g Go.undef AM.undef:=.gnd (.tup rfl (fun i v x h=>by simp at h))
theorem Slots.get {g:Gh} {n:Nat} {tm:T V} {tmps:Array Value} (h:Slots g n tm tmps) (t:Nat):tm.get undef t=qz0∨R g (tmps.getD t Go.undef) (tm.get undef t):=by
 rcases Nat.lt_or_ge t n with h' | h'
 ·obtain ⟨v,hv⟩:=zy0 tmps t (by rw [h.size];exact h')
  have:tmps.getD t Go.undef=v:=by simp [Array.getD_eq_getD_getElem?,hv]
  rw [this];exact h.rel t v hv
 ·rcases h.none t h' with e | e
  ·rw [e]
   right
   have:tmps.getD t Go.undef=Go.undef:=by simp [Array.getD_eq_getD_getElem?,Array.getElem?_eq_none (by rw [h.size];exact h')]
   rw [this];exact .undef
  ·exact .inl e
theorem jv1 {v y:V} (h:yU0 v=some y):y=v∧v≠qz0:=by
 unfold yU0 at h
 split at h
 ·cases h
 ·rename_i hn
  cases h
  exact ⟨rfl,fun e=>by subst e;exact hn _ _ _ _ _ rfl⟩
theorem qD0 {G:Nat→Option V} {g:Gh} {n:Nat} {tm:T V} {a:Act} {x:Operand} {y:V} (hs:Slots g n tm a.tmps) (hG:GlobOk G g.S) (h:ev G tm x=some y):R g (a.eval x) y:=by
 cases x with
 | tmp t =>
  obtain ⟨rfl,hn⟩:=jv1 h
  exact (hs.get t).resolve_left hn
 | const v=>exact .gnd (jx1 3 h)
 | global gl=>exact .gnd (hG gl y h)
 | func f=>cases h;exact .gnd (.fn f)
theorem JB1 {G:Nat→Option V} {g:Gh} {n:Nat} {tm:T V} {a:Act} {xs:List Operand} {ys:List V} (hs:Slots g n tm a.tmps) (hG:GlobOk G g.S) (h:qc0 (ev G tm) xs=some ys) :
 Rs' g (xs.map a.eval).toArray ys:=by
 obtain ⟨h1,h2⟩:=zH0 h
 refine ⟨by simp [h1],fun i v x hv hx=>?_⟩
 simp only [List.getElem?_toArray,List.getElem?_map] at hv
 cases hi:xs[i]? with
 | none=>rw [hi] at hv;cases hv
 | some o =>
  rw [hi] at hv;simp at hv;subst hv
  obtain ⟨y,hy,hf⟩:=h2 i o hi
  rw [hy] at hx;cases hx
  exact qD0 hs hG hf
theorem jr1 {g:Gh} {v:Value} {x:V} {i:Nat} (hR:R g v x) (h:natI x=some i):∃ k,v=.int k (i:Int):=by
 cases x with
 | int k n =>
  have:=hR.int_inv;subst this
  cases n with
  | ofNat m=>cases h;exact ⟨k,rfl⟩
  | negSucc m=>cases h
 | _=>cases h
theorem zI0 {P:Program} {t e:TypeId} (h:qo0 P t=some e):P.underlying t=some (.slice e):=by
 unfold qo0 at h
 split at h
 ·rename_i e' hu;cases h;exact hu
 ·cases h
theorem qL1 {P:Program} {t e:TypeId} {n:Nat} (h:Yr0 P t=some (n,e)):P.underlying t=some (.array n e):=by
 unfold Yr0 at h
 split at h
 ·rename_i hu;cases h;exact hu
 ·cases h
theorem ye1 {P:Program} {t ft:TypeId} {f k:Nat} (h:Zz0 P t f=some (ft,k)):∃ fs fl,P.underlying t=some (.struct fs)∧fs[f]?=some fl∧fl.type=ft∧fl.offset=k:=by
 unfold Zz0 at h
 split at h
 ·rename_i fs hu
  split at h
  ·rename_i fl hf;cases h;exact ⟨fs,fl,hu,hf,rfl,rfl⟩
  ·cases h
 ·cases h
theorem qE1 {B:Ns} {w0:World} {g:Gh} {h:Heap} {w:World} (_hW:W B w0 g h w) {a y:V} {va:Value} {k:Nat} (hR:R g va a) (he:Ym0 a k=some y):∃ ad,va=.pointer (some ad)∧R g (.pointer (some (ad.add k))) y:=by
 cases a with
 | ptr r ver off =>
  cases he
  obtain ⟨ad,ver',rfl,hv,hle,hp⟩:=hR.ptr_inv
  refine ⟨ad,rfl,?_⟩
  change R g _ (.ptr r ver (off+k))
  refine .ptr hv hle fun e=>?_
  obtain ⟨k',sz,hm,ho,hs⟩:=hp e
  refine ⟨k',sz,?_,?_,?_⟩
  ·unfold Addr.add;split <;> exact hm
  ·unfold Addr.add;split
   ·rename_i h0;rw [ho,h0];rfl
   ·simp [ho]
  ·unfold Addr.add;split
   ·exact hs
   ·rfl
 | gptr sz es off =>
  cases he
  have hg:=hR.gptr_inv
  cases hg with
  | gptr val hsz hc hS hh =>
   refine ⟨_,rfl,?_⟩
   rw [Addr.add_mk,Nat.add_assoc]
   exact .gnd (.gptr val hsz hc hS hh)
 | _=>cases he
theorem JG1 {P:Program} {B:Ns} {w0:World} {g:Gh} {h:Heap} {w:World} (hW:W B w0 g h w) {t ft:TypeId} {f k:Nat} {a y:V} {va:Value} (hR:R g va a) (hf:Zz0 P t f=some (ft,k)) (hz:size P ft≠0) (he:Ym0 a k=some y) :
 ∃ v,(Instr.fieldAt t va f).run P w=.ok v w∧R g v y:=by
 obtain ⟨fs,fl,hu,hfl,rfl,rfl⟩:=ye1 hf
 obtain ⟨ad,rfl,hR'⟩:=qE1 hW hR he
 obtain ⟨inf,hinf⟩:=yp0 (P:=P) (t:=fl.type) (by omega)
 refine ⟨_,?_,hR'⟩
 simp only [Instr.fieldAt,Sem.run_bind,run_underlying hu,Result.andThen_ok,hfl,Instr.sureAddr,Sem.run_pure,fieldPlace,za0 hinf,Sem.run_ite]
 rw [if_neg hz]
 simp
theorem W.rowSz {B:Ns} {w0:World} {g:Gh} {h:Heap} {w:World} (hW:W B w0 g h w) {r ver b k sz:Nat} (hv:g.vr r=some ver) (hm:g.mu r=some (b,k,sz)):AM.rowSz h r=sz:=by
 have h1:=hW.ver' r
 rw [hv] at h1
 unfold AM.rowSz
 cases hr:h.get r with
 | row v ty s p c es =>
  obtain ⟨_,b',k',C,fr,hm',_⟩:=hW.row hr
  rw [hm] at hm';cases hm';rfl
 | rowS v ty s p l x =>
  have:=hW.obj r _ hm
  rw [hr] at this
  exact this.1.symm
 | _=>rw [hr] at h1;cases h1
theorem Xt1 {P:Program} {B:Ns} {w0:World} {g:Gh} {h:Heap} {w:World} (hW:W B w0 g h w) {t e:TypeId} {a y:V} {va:Value} {k:IntKind} {len n:Nat} (ha:R g va a)
 (hl:Yr0 P t=some (len,e)) (hlt:n<len) (hpos:0<size P e) (hadd:Ym0 a (n*size P e)=some y):∃ v,(Instr.indexAt t va (.int k (n:Int))).run P w=.ok v w∧R g v y:=by
 have hu:=qL1 hl
 obtain ⟨ad,rfl,hR'⟩:=qE1 hW ha hadd
 obtain ⟨inf,hinf⟩:=yp0 (P:=P) (t:=e) hpos
 refine ⟨_,?_,hR'⟩
 simp only [Instr.indexAt,asIntOf,Sem.run_bind,Sem.run_pure,Result.andThen_ok,run_underlying hu,Instr.sureAddr]
 rw [Sem.run_ite,if_pos ⟨by omega,by omega⟩]
 simp only [Sem.run_bind,za0 hinf,Result.andThen_ok,Sem.run_pure]
 simp
theorem yH1 {P:Program} {g:Gh} {w:World} {t e:TypeId} {vx:Value} {sz:Nat} {es:List V} {c:Option Nat} {k:IntKind} {n:Nat} (hg:GR g.S vx (.gsl sz es c)) (hse:qo0 P t=some e) (hb1:n<es.length) (hz:sz=size P e) :
 ∃ v,(Instr.indexAt t vx (.int k (n:Int))).run P w=.ok v w∧R g v (.gptr sz es (n*sz)):=by
 subst hz
 have hu:=zI0 hse
 cases hg with
 | gsl val hsz hc hS hcap hle hh =>
  obtain ⟨inf,hinf⟩:=yp0 (P:=P) (t:=e) hsz
  refine ⟨_,?_,.gnd (.gptr val hsz hc hS hh)⟩
  simp only [Instr.indexAt,asIntOf,Sem.run_bind,Sem.run_pure,Result.andThen_ok,run_underlying hu]
  rw [Sem.run_ite,if_pos ⟨by omega,by omega⟩]
  simp only [Sem.run_bind,za0 hinf,Result.andThen_ok,Sem.run_pure,Addr.add_mk]
  simp
theorem Xs1 {P:Program} {B:Ns} {w0:World} {g:Gh} {h:Heap} {w:World} (hW:W B w0 g h w) {t:TypeId} {x i y:V} {vx vi:Value} (hx:R g vx x) (hi:R g vi i) (he:indexAddr P h t x i=some y) :
 ∃ v,(Instr.indexAt t vx vi).run P w=.ok v w∧R g v y:=by
 unfold indexAddr at he
 split at he
 ·cases he
 ·rename_i n hn
  obtain ⟨k,rfl⟩:=jr1 hi hn
  split at he
  ·rename_i r ver o m c
   split at he
   ·rename_i e hse
    obtain ⟨hb,he⟩:=qf0 he rfl
    cases he
    simp only [Bool.and_eq_true,Nat.blt_eq,Nat.ble_eq,Nat.beq_eq] at hb
    obtain ⟨⟨hb1,hb2⟩,hb3⟩:=hb
    have hu:=zI0 hse
    obtain ⟨ad,cap,ver',rfl,hv,hle,hcap,hc,hp⟩:=hx.sl_inv
    obtain ⟨inf,hinf⟩:=yp0 (P:=P) (t:=e) hb2
    refine ⟨.pointer (some (ad.add (n*size P e))),?_,?_⟩
    ·simp only [Instr.indexAt,asIntOf,Sem.run_bind,Sem.run_pure,Result.andThen_ok,run_underlying hu]
     rw [Sem.run_ite,if_pos ⟨by omega,by omega⟩]
     simp only [Sem.run_bind,za0 hinf,Result.andThen_ok,Sem.run_pure]
     simp
    ·change R g _ (.ptr r ver ((o+n)*size P e))
     refine .ptr hv hle fun e'=>?_
     obtain ⟨k',sz,hm,ho,hs,_⟩:=hp e'
     rw [hW.rowSz hv hm] at hb3
     subst hb3
     rw [Addr.eta hs,Addr.add_mk,ho (by omega),Nat.add_mul]
     exact ⟨k',_,hm,rfl,rfl⟩
   ·cases he
  ·rename_i sz es c
   split at he
   ·rename_i e hse
    obtain ⟨hb,he⟩:=qf0 he rfl
    cases he
    simp only [Bool.and_eq_true,Nat.blt_eq,Nat.beq_eq,List.len_eq] at hb
    exact yH1 hx.gsl_inv hse hb.1 hb.2
   ·cases he
  ·rename_i sz es
   split at he
   ·rename_i e hse
    obtain ⟨hb,he⟩:=qf0 he rfl
    cases he
    simp only [Bool.and_eq_true,Nat.blt_eq,Nat.beq_eq,List.len_eq] at hb
    rcases hx.osl_inv with ⟨_,_,rfl⟩ | hg
    ·exact absurd hb.1 (Nat.not_lt_zero _)
    ·exact yH1 hg hse hb.1 hb.2
   ·cases he
  ·split at he
   ·rename_i len e hl
    obtain ⟨hb,he⟩:=qf0 he rfl
    simp only [Bool.and_eq_true,Nat.blt_eq,Nat.ble_eq] at hb
    exact Xt1 hW hx hl hb.1 hb.2 he
   ·cases he
theorem jH1 {P:Program} {w:World} {g:Gh} {t:TypeId} {cs:Array Value} {vs:List V} {off:Nat} {y:V} (hn:cs.size=vs.length) (h1:∀ (i:Nat) v,cs[i]?=some v→v.oneCell'=true)
 (hr:∀ (i:Nat) v x,cs[i]?=some v→vs[i]?=some x→R g v x) (hp:yf0 P t (List.takeN (List.dropN vs off) (size P t))=some y):∃ v,(part t cs off).run P w=.ok v w∧R g v y:=by
 rw [List.takeN_eq,List.dropN_eq] at hp
 unfold yf0 at hp
 split at hp
 ·cases hp
 ·rename_i hk
  obtain ⟨hb,hp⟩:=qf0 hp rfl
  cases hp
  rw [Nat.beq_eq,List.len_eq] at hb
  obtain ⟨inf,hinf⟩:=Jy0 hk
  refine ⟨.agg (cs.extract off (off+size P t)),?_,.agg ?_ (fun i v hv=>?_) (fun i v x hv hx=>?_)⟩
  ·simp only [part,Sem.run_bind,Yo0 hk,Result.andThen_ok,if_true,za0 hinf,Sem.run_pure]
  ·simp at hb ⊢;omega
  ·rw [Array.getElem?_extract] at hv
   split at hv
   ·exact h1 _ v hv
   ·cases hv
  ·rw [Array.getElem?_extract] at hv
   split at hv
   ·rw [List.getElem?_take] at hx
    split at hx
    ·rw [List.getElem?_drop] at hx
     exact hr _ v x hv hx
    ·cases hx
   ·cases hv
 ·rename_i hk
  split at hp
  ·rename_i x heq
   cases hp
   have h0:vs[off]?=some y:=by
    have:((vs.drop off).take (size P t))[0]?=some y:=by rw [heq];rfl
    rw [List.getElem?_take] at this
    split at this
    ·rw [List.getElem?_drop] at this;exact this
    ·cases this
   obtain ⟨v,hv⟩:=zy0 cs off (by rw [hn];exact qd0 h0)
   refine ⟨v,?_,hr _ v y hv h0⟩
   simp [part,Yo0 hk,hv]
  ·cases hp
theorem JJ1 {P:Program} {w:World} {g:Gh} {t ft:TypeId} {f k:Nat} {vs:List V} {v:Value} {y:V} (hR:R g v (.agg vs)) (hf:Zz0 P t f=some (ft,k)) (hp:yf0 P ft (List.takeN (List.dropN vs k) (size P ft))=some y) :
 ∃ u,(Instr.field t v f).run P w=.ok u w∧R g u y:=by
 obtain ⟨fs,fl,hu,hfl,rfl,rfl⟩:=ye1 hf
 obtain ⟨cs,rfl,hn,h1,hr⟩:=hR.agg_inv
 obtain ⟨u,h2,h3⟩:=jH1 (P:=P) (w:=w) hn h1 hr hp
 refine ⟨u,?_,h3⟩
 simp only [Instr.field,Sem.run_bind,run_underlying hu,Result.andThen_ok,hfl,asAgg,Sem.run_pure]
 exact h2
theorem Xm0 {P:Program} {t:TypeId} (h:zm0 P t=true):P.underlying t=some .string:=by
 unfold zm0 at h
 split at h
 ·assumption
 ·cases h
theorem ZH0 {P:Program} {t:TypeId} (h:qX0 P t=true):∃ e,P.underlying t=some (.slice e):=by
 unfold qX0 at h
 split at h
 ·exact ⟨_,by assumption⟩
 ·cases h
theorem Gf0 {P:Program} {t:TypeId} (h:YL0 P t=true):∃ k e,P.underlying t=some (.map k e):=by
 unfold YL0 at h
 split at h
 ·exact ⟨_,_,by assumption⟩
 ·cases h
theorem Gz1 {P:Program} {t:TypeId} {cs:List V} {y:V} (h:yf0 P t cs=some y):∃ i,P.info? t=some i:=by
 unfold yf0 at h
 split at h
 ·cases h
 ·exact Jy0 (by assumption)
 ·exact Jy0 (by assumption)
theorem Xy1 {P:Program} {w:World} {g:Gh} {t:TypeId} {x i y:V} {vx vi:Value} (hx:R g vx x) (hi:R g vi i) (he:index P t x i=some y) :
 ∃ v,(Instr.index t vx vi).run P w=.ok v w∧R g v y:=by
 unfold index at he
 split at he
 ·cases he
 ·rename_i n hn
  obtain ⟨k,rfl⟩:=jr1 hi hn
  split at he
  ·rename_i s
   obtain ⟨b,rfl,rfl⟩:=hx.str_inv
   split at he
   ·rename_i c hc
    obtain ⟨hb,he⟩:=qf0 he rfl
    cases he
    rw [List.at_eq] at hc
    have hget:b[n]?=some c:=by
     have hlt:n<b.size:=by
      have:=qd0 hc
      simpa using this
     rw [getElem?_pos b n hlt]
     rw [show b[n]=b.data[n] from rfl]
     have h2:b.data[n]?=some c:=by simpa using hc
     rw [Array.getElem?_eq_getElem (by exact hlt)] at h2
     exact h2
    refine ⟨.int .u8 c.toNat,?_,.gnd (.int _ _)⟩
    simp only [Instr.index,asIntOf,Sem.run_bind,Sem.run_pure,Result.andThen_ok,run_underlying (Xm0 hb)]
    simp [hget]
   ·cases he
  ·rename_i cs
   split at he
   ·rename_i len e hl
    obtain ⟨hb,he⟩:=qf0 he rfl
    rw [Nat.blt_eq] at hb
    obtain ⟨c,rfl,hn',h1,hr⟩:=hx.agg_inv
    have hp:0<size P e∨size P e=0:=by omega
    obtain ⟨u,h2,h3⟩:=jH1 (P:=P) (w:=w) hn' h1 hr he
    have hu':=qL1 hl
    have hinf:∃ i,P.info? e=some i:=Gz1 he
    obtain ⟨inf,hinf⟩:=hinf
    refine ⟨u,?_,h3⟩
    simp only [Instr.index,asIntOf,Sem.run_bind,Sem.run_pure,Result.andThen_ok,run_underlying hu']
    rw [Sem.run_ite,if_pos ⟨by omega,by omega⟩]
    simp only [Sem.run_bind,za0 hinf,Result.andThen_ok]
    exact h2
   ·cases he
  ·cases he
inductive OR (g:Gh):Option Value→Option V→Prop
 | none:OR g none none
 | some {v:Value} {x:V} (h:R g v x):OR g (some v) (some x)
theorem jw0 {P:Program} {w:World} {k:IntKind} {n y:Nat} {c:BoundsCode} (h:n≤y):(Instr.sliceBound (.int k (n:Int)) y c).run P w=.ok n w:=by
 simp only [Instr.sliceBound,asIntOf,Sem.run_bind,Sem.run_pure,Result.andThen_ok]
 rw [Sem.run_ite,if_pos ⟨by omega,by omega⟩]
 simp
theorem Yu0 {g:Gh} {d n:Nat} {v:Option Value} {x:Option V} (hR:OR g v x) (h:qU0 d x=some n):(v=none∧n=d)∨∃ k,v=some (.int k (n:Int)):=by
 cases hR with
 | none=>cases h;exact .inl ⟨rfl,rfl⟩
 | some hr =>
  right
  unfold qU0 at h
  split at h
  ·rename_i e;cases e
  ·rename_i k m e
   cases h;cases e
   exact ⟨k,by rw [hr.int_inv];rfl⟩
  ·cases h
def Qe0 (hi mx:Option V):Option (Option Nat) :=
 match mx with
 | none=>some none
 | some (.int _ (.ofNat m))=>(match hi with
  | some _=>some (some m)
  | none=>none)
 | _=>none
theorem Zd0 {P:Program} {w:World} {g:Gh} {b:Bool} {len cap l e:Nat} {lo hi mx:Option V} {lo' hi' mx':Option Value} {m:Option Nat} (h1:OR g lo' lo) (h2:OR g hi' hi) (h3:OR g mx' mx)
 (hl:qU0 0 lo=some l) (he:qU0 len hi=some e) (hm:Qe0 hi mx=some m) (hle:l≤e) (hlc:len≤cap) (hem:e≤m.getD cap) (hmc:m.getD cap≤cap) :
 (Instr.sliceBounds b len cap lo' hi' mx').run P w=.ok (l,e,m.getD cap) w∧(mx'=none↔m=none):=by
 rcases Yu0 h1 hl with ⟨rfl,rfl⟩ | ⟨kl,rfl⟩
 ·cases h3 with
  | none =>
   cases hm
   simp only [Option.getD_none] at hem hmc
   rcases Yu0 h2 he with ⟨rfl,rfl⟩ | ⟨kh,rfl⟩
   ·simp [Instr.sliceBounds,Sem.run_pure]
   ·simp [Instr.sliceBounds,Result.andThen_ok,jw0 hem]
  | some hr =>
   unfold Qe0 at hm
   split at hm
   ·rename_i e;cases e
   ·rename_i k n e0
    cases e0
    have:=hr.int_inv;subst this
    split at hm
    ·cases hm
     simp only [Option.getD_some] at hem hmc
     rcases Yu0 h2 he with ⟨rfl,_⟩ | ⟨kh,rfl⟩
     ·cases h2
     ·simp [Instr.sliceBounds,Sem.run_bind,Result.andThen_ok,jw0 hem,jw0 hmc]
    ·cases hm
   ·cases hm
 ·cases h3 with
  | none =>
   cases hm
   simp only [Option.getD_none] at hem hmc
   rcases Yu0 h2 he with ⟨rfl,rfl⟩ | ⟨kh,rfl⟩
   ·simp [Instr.sliceBounds,Result.andThen_ok,jw0 hle]
   ·simp [Instr.sliceBounds,Sem.run_bind,Result.andThen_ok,jw0 hem,jw0 hle]
  | some hr =>
   unfold Qe0 at hm
   split at hm
   ·rename_i e;cases e
   ·rename_i k n e0
    cases e0
    have:=hr.int_inv;subst this
    split at hm
    ·cases hm
     simp only [Option.getD_some] at hem hmc
     rcases Yu0 h2 he with ⟨rfl,_⟩ | ⟨kh,rfl⟩
     ·cases h2
     ·simp [Instr.sliceBounds,Sem.run_bind,Result.andThen_ok,jw0 hem,jw0 hmc,jw0 hle]
    ·cases hm
   ·cases hm
theorem Jv0 {a:Addr} {m l sz:Nat}:(if m=l then some a else (some a).map (·.add (l*sz)))=some (if m=l then a else a.add (l*sz)):=by split <;> rfl
theorem Qs1 {g:Gh} {a:Addr} {r ver o n cap l e:Nat} {c c':Option Nat} {m:Nat} {s:Nat} {h:Heap} {B:Ns} {w0 w:World} (_hW:W B w0 g h w) (hx:R g (.slice (some a) n cap) (.sl r ver o n c)) (hs:∀ b k sz,g.mu r=some (b,k,sz)→g.vr r=some ver→sz=s)
 (hle:l≤e) (hem:e≤m) (hmc:m≤cap) (hc1:∀ q,c'=some q→m-l=q) (hc2:c'=none→m=cap∧c=none) :
 R g (.slice (some (if m=l then a else a.add (l*s))) (e-l) (m-l)) (.sl r ver (o+l) (e-l) c'):=by
 obtain ⟨a',cap',ver',hv,hvr,hle',hn,hc,hp⟩:=hx.sl_inv
 cases hv
 refine .sl hvr hle' (by omega) hc1 fun ev=>?_
 obtain ⟨k,sz,hm,ho,hsp,hok,hk⟩:=hp ev
 have hsz:=hs _ _ _ hm (ev ▸ hvr)
 subst hsz
 refine ⟨k,sz,?_,?_,?_,by omega,?_⟩
 ·split
  ·exact hm
  ·rw [Addr.eta hsp,Addr.add_mk];exact hm
 ·intro hpos
  rw [if_neg (by omega),Addr.eta hsp,Addr.add_mk,ho (by omega),Nat.add_mul]
 ·split
  ·exact hsp
  ·rw [Addr.eta hsp,Addr.add_mk]
 ·intro hcn
  obtain ⟨h1,h2⟩:=hc2 hcn
  have:=hk h2
  omega
theorem Qt1 {P:Program} {B:Ns} {w0:World} {g:Gh} {h:Heap} {w:World} (hW:W B w0 g h w) {t:TypeId} {x y:V} {vx:Value} {lo hi mx:Option V} {lo' hi' mx':Option Value} (hx:R g vx x) (h1:OR g lo' lo) (h2:OR g hi' hi) (h3:OR g mx' mx) (hl:slice P h t x lo hi mx=some y)  (hno:∀ sz es,x≠.osl sz es) :
 ∃ v,(Instr.slice t vx lo' hi' mx').run P w=.ok v w∧R g v y:=by
 unfold slice at hl
 split at hl
 ·cases hl
 ·rename_i l hlo
  change (match Qe0 hi mx with | none=>none | some m=>_)=_ at hl
  split at hl
  ·cases hl
  ·rename_i m hm
   split at hl
   ·rename_i s
    obtain ⟨b,rfl,rfl⟩:=hx.str_inv
    split at hl
    ·rename_i e he
     obtain ⟨hb,hl⟩:=qf0 hl rfl
     cases hl
     simp only [Bool.and_eq_true,Nat.ble_eq,List.len_eq] at hb
     obtain ⟨⟨hb1,hb2⟩,hb3⟩:=hb
     rw [List.len_eq] at he
     have hsz:b.data.toList.length=b.size:=by simp
     rw [hsz] at hb3 he
     obtain ⟨hr,hmx⟩:=Zd0 (P:=P) (w:=w) (b:=false) (cap:=b.size) h1 h2 h3 hlo he hm hb2 (Nat.le_refl _) (by simpa using hb3) (by simp)
     have hmx':mx'=none:=hmx.2 rfl
     subst hmx'
     refine ⟨.string (b.extract l e),?_,.gnd (.str ?_)⟩
     ·simp only [Instr.slice,Sem.run_bind,run_underlying (Xm0 hb1),Result.andThen_ok]
      simp [hr]
     ·rw [List.dropN_eq,List.takeN_eq]
      simp [ByteArray.data_extract,Array.toList_extract,List.extract_eq_take_drop]
      rw [List.drop_take]
    ·cases hl
   ·have:=hx.nils_inv
    subst this
    have key:∀ (el:TypeId) (m':Option Nat),Qe0 hi mx=some m'→qU0 0 hi=some 0→qo0 P t=some el→l=0→m'.getD 0=0→size P el ≥ 0→(∃ i,P.info? el=some i)→∃ v,(Instr.slice t (.slice none 0 0) lo' hi' mx').run P w=.ok v w∧R g v .nils:=by
     intro el m' hm' he hse hl0 hm0 _ hinf
     subst hl0
     obtain ⟨inf,hinf⟩:=hinf
     obtain ⟨hr,hmx⟩:=Zd0 (P:=P) (w:=w) (b:=true) (len:=0) (cap:=0) h1 h2 h3 hlo he hm' (Nat.le_refl _) (Nat.le_refl _) (by omega) (by omega)
     refine ⟨.slice none 0 0,?_,.gnd .nils⟩
     simp only [Instr.slice,Sem.run_bind,run_underlying (zI0 hse),Result.andThen_ok,hr,za0 hinf,Sem.run_pure,hm0]
     simp
    split at hl
    ·rename_i el he hse
     obtain ⟨hb,hl⟩:=qf0 hl rfl
     cases hl
     simp only [Bool.and_eq_true,Nat.ble_eq,Nat.beq_eq] at hb
     exact key el _ hm he hse hb.1 rfl (Nat.zero_le _) (yp0 hb.2)
    ·rename_i el he hse
     obtain ⟨hb,hl⟩:=qf0 hl rfl
     cases hl
     simp only [Bool.and_eq_true,Nat.ble_eq,Nat.beq_eq] at hb
     exact key el _ hm he hse hb.1 rfl (Nat.zero_le _) (yp0 hb.2)
    ·cases hl
   ·rename_i r ver o n c
    split at hl
    ·rename_i e el he hse
     obtain ⟨hb,hl⟩:=qf0 hl rfl
     simp only [Bool.and_eq_true,Nat.ble_eq,Nat.beq_eq] at hb
     obtain ⟨hb1,hb2⟩:=hb
     obtain ⟨inf,hinf⟩:=yp0 hb1
     obtain ⟨a,cap,ver',rfl,hvr,hle',hn,hc,hp⟩:=hx.sl_inv
     have hrs:∀ b k sz,g.mu r=some (b,k,sz)→g.vr r=some ver→sz=size P el:=fun b k sz hm hv=>by rw [← hb2];exact (hW.rowSz hv hm).symm
     unfold qp1 at hl
     split at hl
     ·obtain ⟨hb,hl⟩:=qf0 hl rfl
      cases hl
      simp only [Bool.and_eq_true,Nat.ble_eq] at hb
      obtain ⟨hr,hmx⟩:=Zd0 (P:=P) (w:=w) (b:=true) (len:=n) (cap:=cap) h1 h2 h3 hlo he hm hb.1 hn (by simp;omega) (by simp)
      refine ⟨_,?_,Qs1 hW (m:=cap) (s:=size P el) hx hrs hb.1 (by omega) (Nat.le_refl _) ?_ ?_⟩
      ·simp only [Instr.slice,Sem.run_bind,run_underlying (zI0 hse),Result.andThen_ok,hr,za0 hinf,Sem.run_pure,Option.getD_none]
       rw [Jv0]
      ·intro q hq
       cases c with
       | none=>cases hq
       | some c0=>cases hq;rw [hc _ rfl];rfl
      ·intro hcn
       cases c with
       | none=>exact ⟨rfl,rfl⟩
       | some c0=>cases hcn
     ·rename_i m0 _
      obtain ⟨hb,hl⟩:=qf0 hl rfl
      cases hl
      simp only [Bool.and_eq_true,Nat.ble_eq] at hb
      obtain ⟨⟨hb1',hb2'⟩,hb3'⟩:=hb
      obtain ⟨hr,hmx⟩:=Zd0 (P:=P) (w:=w) (b:=true) (len:=n) (cap:=cap) h1 h2 h3 hlo he hm hb1' hn (by simp;omega) (by simp;omega)
      refine ⟨_,?_,Qs1 hW (m:=m0) (s:=size P el) hx hrs hb1' hb2' (by omega) ?_ ?_⟩
      ·simp only [Instr.slice,Sem.run_bind,run_underlying (zI0 hse),Result.andThen_ok,hr,za0 hinf,Sem.run_pure,Option.getD_some]
       rw [Jv0]
      ·intro q hq;cases hq;rfl
      ·intro hcn;cases hcn
    ·cases hl
   ·rename_i sz es c
    split at hl
    ·rename_i e el he hse
     obtain ⟨hb,hl⟩:=qf0 hl rfl
     rw [Nat.beq_eq] at hb
     have hg:=hx.gsl_inv
     rw [List.len_eq] at he
     cases hg with
     | gsl val hsz hc hS hcap hlen hh =>
      rename_i bb off cap
      obtain ⟨inf,hinf⟩:=yp0 (P:=P) (t:=el) (by omega)
      have part:∀ (m0:Nat) (c':Option Nat),l≤e→e≤m0→m0≤cap→e≤es.length→(∀ q,c'=some q→m0-l=q) →
       R g (.slice (some (if m0=l then ⟨bb,off,none⟩ else (⟨bb,off,none⟩:Addr).add (l*size P el))) (e-l) (m0-l)) (.gsl sz (List.dropN (List.takeN es e) l) c'):=by
       intro m0 c' q1 q2 q3 q4 q5
       rw [List.dropN_eq,List.takeN_eq]
       have hln:e-l=((es.take e).drop l).length:=by simp;omega
       have hget:∀ (i:Nat) x,((es.take e).drop l)[i]?=some x→es[l+i]?=some x:=fun i x hi=>by
        rw [List.getElem?_drop,List.getElem?_take] at hi
        split at hi
        ·exact hi
        ·cases hi
       rw [hln]
       by_cases hml:m0=l
       ·have:(es.take e).drop l=[]:=by apply List.eq_nil_of_length_eq_zero;omega
        rw [if_pos hml,this]
        exact .gnd (.gsl (fun _ _=>Go.undef) hsz (fun i x hi=>by simp at hi) (fun i x j y hi=>by simp at hi) q5 (by simp) (fun i x j y hi=>by simp at hi))
       ·rw [if_neg hml,Addr.add_mk,hb]
        refine .gnd (.gsl (fun i j=>val (l+i) j) hsz (fun i x hi=>hc _ _ (hget i x hi)) (fun i x j y hi hj=>?_) q5 (by omega) (fun i x j y hi hj=>hh _ _ _ _ (hget i x hi) hj))
        have:=hS _ _ _ _ (hget i x hi) hj
        rw [Nat.add_mul] at this
        rw [show off+l*sz+i*sz+j=off+(l*sz+i*sz)+j by omega]
        exact this
      unfold XT0 at hl
      split at hl
      ·obtain ⟨hb',hl⟩:=qf0 hl rfl
       cases hl
       simp only [Bool.and_eq_true,Nat.ble_eq,List.len_eq] at hb'
       obtain ⟨hr,hmx⟩:=Zd0 (P:=P) (w:=w) (b:=true) (len:=es.length) (cap:=cap) h1 h2 h3 hlo he hm hb'.1 hlen (by simp;omega) (by simp)
       refine ⟨_,?_,part cap _ hb'.1 (by omega) (Nat.le_refl _) hb'.2 ?_⟩
       ·simp only [Instr.slice,Sem.run_bind,run_underlying (zI0 hse),Result.andThen_ok,hr,za0 hinf,Sem.run_pure,Option.getD_none]
        rw [Jv0]
       ·intro q hq
        cases c with
        | none=>cases hq
        | some c0=>cases hq;rw [hcap _ rfl];rfl
      ·rename_i m0 _
       obtain ⟨hb',hl⟩:=qf0 hl rfl
       cases hl
       simp only [Bool.and_eq_true,Nat.ble_eq,List.len_eq] at hb'
       obtain ⟨⟨q1,q2⟩,q3⟩:=hb'
       obtain ⟨hr,hmx⟩:=Zd0 (P:=P) (w:=w) (b:=true) (len:=es.length) (cap:=cap) h1 h2 h3 hlo he hm q1 hlen (by simp;omega) (by simp;omega)
       refine ⟨_,?_,part m0 _ q1 q2 (by omega) (by omega) ?_⟩
       ·simp only [Instr.slice,Sem.run_bind,run_underlying (zI0 hse),Result.andThen_ok,hr,za0 hinf,Sem.run_pure,Option.getD_some]
        rw [Jv0]
       ·intro q hq;cases hq;rfl
    ·cases hl
   ·exact absurd rfl (hno _ _)
   ·cases hl
theorem zp2 {P:Program} {B:Ns} {w0:World} {g:Gh} {h:Heap} {w:World} (hW:W B w0 g h w) {t:TypeId} {x y:V} {vx:Value} {lo hi mx:Option V} {lo' hi' mx':Option Value} (hx:R g vx x) (h1:OR g lo' lo) (h2:OR g hi' hi) (h3:OR g mx' mx) (hl:slice P h t x lo hi mx=some y)  :
 ∃ v,(Instr.slice t vx lo' hi' mx').run P w=.ok v w∧R g v y:=by
 by_cases hno:∃ sz es,x=.osl sz es
 ·obtain ⟨sz,es,rfl⟩:=hno
  have hl0:=hl
  unfold slice at hl
  cases hlo:qU0 0 lo with
  | none=>rw [hlo] at hl;cases hl
  | some l =>
   rw [hlo] at hl
   change (match Qe0 hi mx with | none=>none | some m=>_)=_ at hl
   cases hm:Qe0 hi mx with
   | none=>rw [hm] at hl;cases hl
   | some m =>
    rw [hm] at hl
    simp only at hl
    cases he:qU0 (List.len es) hi with
    | none=>rw [he] at hl;cases hl
    | some e =>
     rw [he] at hl
     cases hse:qo0 P t with
     | none=>rw [hse] at hl;cases hl
     | some el =>
      rw [hse] at hl
      cases m with
      | some m=>cases hl
      | none =>
       simp only at hl
       obtain ⟨hb,hl⟩:=qf0 hl rfl
       cases hl
       simp only [Bool.and_eq_true,Nat.ble_eq,Nat.beq_eq,List.len_eq] at hb
       obtain ⟨⟨⟨b1,b2⟩,b3⟩,b4⟩:=hb
       rw [List.len_eq] at he
       rcases hx.osl_inv with ⟨a,rfl,rfl⟩ | h'
       ·have e0:e=0:=by simpa using b4
        subst e0
        have l0:l=0:=by omega
        subst l0
        obtain ⟨inf,hinf⟩:=yp0 (P:=P) (t:=el) (by omega)
        obtain ⟨hr,hmx⟩:=Zd0 (P:=P) (w:=w) (b:=true) (len:=0) (cap:=0) h1 h2 h3 hlo he hm (Nat.le_refl _) (Nat.le_refl _) (by simp) (by simp)
        refine ⟨.slice a 0 0,?_,.gnd .oslN⟩
        simp only [Instr.slice,Sem.run_bind,run_underlying (zI0 hse),Result.andThen_ok,hr,za0 hinf,Sem.run_pure]
        cases a <;> simp
       ·have hs:slice P h t (.gsl sz es none) lo hi mx=some (.gsl sz (List.dropN (List.takeN es e) l) none):=by
         unfold slice
         rw [hlo]
         change (match Qe0 hi mx with | none=>none | some m=>_)=_
         rw [hm]
         simp only [List.len_eq,he,hse]
         rw [show Nat.beq (size P el) sz=true by simpa using b1]
         simp only [cond_true]
         unfold XT0
         simp only [List.len_eq]
         rw [show (Nat.ble l e&&Nat.ble e es.length)=true by simp only [Bool.and_eq_true,Nat.ble_eq];exact ⟨b3,b4⟩]
         rfl
        obtain ⟨v,hv,hR⟩:=Qt1 hW (.gnd h') h1 h2 h3 hs (fun _ _ e=>by cases e)
        exact ⟨v,hv,.gnd (.oslS hR.gsl_inv)⟩
 ·exact Qt1 hW hx h1 h2 h3 hl fun sz es e=>hno ⟨sz,es,e⟩
theorem XY1 {P:Program} {B:Ns} {w0:World} {g:Gh} {h:Heap} {w:World} (hW:W B w0 g h w) {t ty:TypeId} {ts:List TypeId} {x:V} {vx:Value} {n:Nat} (hx:R g vx x) (hl:lenOf P t h x=some n) :
 (Builtin.len_ (t::ts).toArray ty #[vx]).run P w=.ok (.int .i64 (n:Int)) w:=by
 unfold lenOf at hl
 split at hl
 ·obtain ⟨s,rfl,rfl⟩:=hx.str_inv
  obtain ⟨hb,hl⟩:=qf0 hl rfl
  cases hl
  simp [Builtin.len_,run_underlying (Xm0 hb),goInt,List.len_eq]
 ·have:=hx.nils_inv;subst this
  obtain ⟨hb,hl⟩:=qf0 hl rfl
  cases hl
  obtain ⟨e,hu⟩:=ZH0 hb
  simp [Builtin.len_,run_underlying hu,goInt]
 ·obtain ⟨a,cap,_,rfl,_⟩:=hx.sl_inv
  obtain ⟨hb,hl⟩:=qf0 hl rfl
  cases hl
  obtain ⟨e,hu⟩:=ZH0 hb
  simp [Builtin.len_,run_underlying hu,goInt]
 ·have hg:=hx.gsl_inv
  obtain ⟨hb,hl⟩:=qf0 hl rfl
  cases hl
  obtain ⟨e,hu⟩:=ZH0 hb
  cases hg
  simp [Builtin.len_,run_underlying hu,goInt,List.len_eq]
 ·obtain ⟨hb,hl⟩:=qf0 hl rfl
  cases hl
  obtain ⟨e,hu⟩:=ZH0 hb
  rcases hx.osl_inv with ⟨_,rfl,rfl⟩ | hg
  ·simp [Builtin.len_,run_underlying hu,goInt,List.len_eq]
  ·cases hg
   simp [Builtin.len_,run_underlying hu,goInt,List.len_eq]
 ·have:=hx.nilm_inv;subst this
  obtain ⟨hb,hl⟩:=qf0 hl rfl
  cases hl
  obtain ⟨k,e,hu⟩:=Gf0 hb
  simp [Builtin.len_,run_underlying hu,goInt]
 ·rename_i r
  obtain ⟨b,k,rfl,hv,hm⟩:=hx.map_inv
  split at hl
  ·rename_i es hr
   obtain ⟨hb,hl⟩:=qf0 hl rfl
   cases hl
   obtain ⟨k,e,hu⟩:=Gf0 hb
   have:=hW.obj r _ hm
   rw [hr] at this
   obtain ⟨_,E,clock,h1,h2,_⟩:=this
   simp [Builtin.len_,run_underlying hu,goInt,List.len_eq,getObj,Sem.run,h1,h2]
  ·cases hl
 ·rename_i ks vs
  obtain ⟨hb,hl⟩:=qf0 hl rfl
  cases hl
  obtain ⟨k,e,hu⟩:=Gf0 hb
  have h':=hx.gmap_inv
  cases h' with
  | gmap hS hk hv h1 h2 =>
   have h3:=JZ0 (w:=w) (fun o v e=>hW.shut _ _ _ (hS o v e))
   simp [Builtin.len_,run_underlying hu,goInt,List.len_eq,getObj,Sem.run,h3,hk]
 ·cases hl
theorem JD1 {P:Program} {w:World} {g:Gh} {x y:V} {vx:Value} {i:Nat} (hx:R g vx x) (hl:extract i x=some y):∃ v,(Instr.extract vx i).run P w=.ok v w∧R g v y:=by
 unfold extract at hl
 split at hl
 ·obtain ⟨cs,rfl,hn,hr⟩:=hx.tup_inv
  rw [List.at_eq] at hl
  obtain ⟨v,hv⟩:=zy0 cs i (by rw [hn];exact qd0 hl)
  exact ⟨v,by simp [Instr.extract,hv],hr i v y hv hl⟩
 ·cases hl
theorem KE1 {P:Program} {w:World} {g:Gh} {x y z:V} {vx vy:Value} (hx:R g vx x) (hy:R g vy y) (h:max2 x y=some z):∃ v,(Builtin.max2 vx vy).run P w=.ok v w∧R g v z:=by
 unfold max2 at h
 split at h
 ·rename_i k a k' b
  cases h
  have:=hx.int_inv;subst this
  have:=hy.int_inv;subst this
  refine ⟨_,rfl,?_⟩
  rcases Int.lt_or_le a b with h' | h'
  ·rw [if_pos h',(QM0 a b).2 h'];exact .gnd (.int _ _)
  ·rw [if_neg (by omega)]
   have:ilt a b=false:=by
    cases hq:ilt a b with
    | true=>have:=(QM0 a b).1 hq;omega
    | false=>rfl
   rw [this];exact .gnd (.int _ _)
 ·cases h
theorem KI1 {P:Program} {w:World} {g:Gh} {x y z:V} {vx vy:Value} (hx:R g vx x) (hy:R g vy y) (h:min2 x y=some z):∃ v,(Builtin.min2 vx vy).run P w=.ok v w∧R g v z:=by
 unfold min2 at h
 split at h
 ·rename_i k a k' b
  cases h
  have:=hx.int_inv;subst this
  have:=hy.int_inv;subst this
  refine ⟨_,rfl,?_⟩
  rcases Int.lt_or_le b a with h' | h'
  ·rw [if_pos h',(QM0 b a).2 h'];exact .gnd (.int _ _)
  ·rw [if_neg (by omega)]
   have:ilt b a=false:=by
    cases hq:ilt b a with
    | true=>have:=(QM0 b a).1 hq;omega
    | false=>rfl
   rw [this];exact .gnd (.int _ _)
 ·cases h
theorem yl1 {P:Program} {w:World} {g:Gh} (F:Value→Value→Sem Value) (f:V→V→Option V) (hf:∀ {x y z vx vy},R g vx x→R g vy y→f x y=some z→∃ v,(F vx vy).run P w=.ok v w∧R g v z) (l:List V) :
 ∀ (us:List Value) (x:V) (vx:Value) (z:V),us.length=l.length→(∀ (i:Nat) v y,us[i]?=some v→l[i]?=some y→R g v y)→R g vx x→JU0 f l x=some z→∃ v,(us.foldlM F vx).run P w=.ok v w∧R g v z:=by
 induction l with
 | nil =>
  intro us x vx z hn _ hx h
  cases us with
  | nil=>cases h;exact ⟨vx,by simp,hx⟩
  | cons _ _=>simp at hn
 | cons y l ih =>
  intro us x vx z hn hr hx h
  cases us with
  | nil=>simp at hn
  | cons u us =>
   change (match f x y with | some b=>JU0 f l b | none=>none)=some z at h
   cases hb:f x y with
   | none=>rw [hb] at h;cases h
   | some b =>
    rw [hb] at h
    obtain ⟨v,h1,h2⟩:=hf hx (hr 0 u y rfl rfl) hb
    obtain ⟨v',h3,h4⟩:=ih us b v z (by simpa using hn) (fun i a c p q=>hr (i+1) a c (by simpa using p) (by simpa using q)) h2 h
    exact ⟨v',by simp [List.foldlM_cons,h1,h3],h4⟩
theorem jA0 {P:Program} {t:TypeId} {z:V} (h:zero P t=some z):∃ i v,P.info? t=some i∧i.zero=some v∧∀ S,GR S v z:=by
 unfold zero at h
 split at h
 ·rename_i i hi
  split at h
  ·rename_i v hv
   exact ⟨i,v,hi,hv,fun S=>jx1 3 h⟩
  ·cases h
 ·cases h
theorem jx0 {P:Program} {w:World} {t:TypeId} {i:TypeInfo} {v:Value} (hi:P.info? t=some i) (hv:i.zero=some v):(zeroValue t).run P w=.ok v w:=by
 simp [zeroValue,typeInfo,hi,hv]
theorem qU1 {x:V} {b:UInt8} (h:Yv0 x=some b):∃ n,x=.int .u8 n∧b=UInt8.ofNat n.toNat:=by
 unfold Yv0 at h
 split at h
 ·cases h;exact ⟨_,rfl,rfl⟩
 ·cases h
end
end Go.AM
