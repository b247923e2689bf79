/-
  AN ABSTRACT MACHINE that runs a program over plain data, and a second one that tells what calls come to, are sound against the model (a part of it). No condition but what each theorem says.
-/
import Derived.ChangeMaps5
import Derived.ChangeSlices
import Derived.Deep.Strs
import Derived.OpenShut
import Derived.Test.YtcfdhkmbooipbaaGreatDoorTt3
namespace Go.AM
noncomputable section
open Go.RowKit
variable {P:Program} {G:Nat→Option V} {tm:T V} {h:Heap}
theorem ZV0 (x:Operand) (f:V→Option V):o1 G tm h x f=match ev G tm x with
 | some v=>qj0 h (f v)
 | none=>.stuck:=by unfold o1;cases ev G tm x <;> rfl
theorem ZW0 (x y:Operand) (f:V→V→Option V):o2 G tm h x y f=match ev G tm x with
 | some v=>(match ev G tm y with
  | some w=>qj0 h (f v w)
  | none=>.stuck)
 | none=>.stuck:=by
 unfold o2
 cases ev G tm x with
 | none=>rfl
 | some v=>cases hy:ev G tm y <;> simp only [hy]
theorem XD1 (k:IntKind) (a b:Int):qF0 .eql k a b=some (.bool (decide (a=b))):=by
 change some (V.bool (ieq a b))=_;rw [QL0];rfl
theorem XI1 (k:IntKind) (a b:Int):qF0 .neq k a b=some (.bool (!decide (a=b))):=by
 change some (V.bool (!ieq a b))=_;rw [QL0];rfl
theorem XH1 (k:IntKind) (a b:Int):qF0 .lss k a b=some (.bool (decide (a<b))):=by
 change some (V.bool (ilt a b))=_;rw [ZG0]
theorem XG1 (k:IntKind) (a b:Int):qF0 .leq k a b=some (.bool (decide (a≤b))):=by
 change some (V.bool (ile a b))=_;rw [Xh0]
theorem XF1 (k:IntKind) (a b:Int):qF0 .gtr k a b=some (.bool (decide (b<a))):=by
 change some (V.bool (ilt b a))=_;rw [ZG0]
theorem XE1 (k:IntKind) (a b:Int):qF0 .geq k a b=some (.bool (decide (b≤a))):=by
 change some (V.bool (ile b a))=_;rw [Xh0]
theorem Ko0 (a b:List UInt8):(a == b)=decide (a=b):=by rw [Bool.eq_iff_iff];simp
theorem zO2 (a b:List UInt8):jy0 .eql a b=some (.bool (decide (a=b))):=by
 change some (V.bool (zC0 a b))=_;rw [Zg0,Ko0]
theorem zP2 (a b:List UInt8):jy0 .neq a b=some (.bool (!decide (a=b))):=by
 change some (V.bool (!zC0 a b))=_;rw [Zg0,Ko0]
theorem zN2 {a b:List UInt8} (h:a.length+b.length≤qL0):jy0 .add a b=some (.str (a++b)):=by
 change (bif Nat.ble (Nat.add (List.len a) (List.len b)) qL0 then some (V.str (List.app a b)) else none)=_
 rw [List.len_eq,List.len_eq,List.app_eq]
 have:Nat.ble (Nat.add a.length b.length) qL0=true:=by rw [Nat.ble_eq];exact h
 rw [this];rfl
theorem Xw0 (c:Call):zw0 P G tm h c=match qc0 (ev G tm) c.args.toList with
 | none=>.stuck
 | some args=>match c.callee with
  | .builtin b=>(match b with
   | .recover=>.recover h
   | b=>builtin P b c.argTypes.toList h args)
  | .value f=>(match ev G tm f with
   | some f=>jL0 P h f args
   | none=>.stuck)
  | .invoke _ _=>.stuck:=rfl
theorem Kd1 {t:TypeId} {s:List UInt8} (ht:zm0 P t=true):builtin P .len [t] h [.str s]=.val (.int .i64 (s.length:Int)) h:=by
 change (match lenOf P t h (.str s) with | some n=>Rs.val (.int .i64 (Int.ofNat n)) h | none=>.stuck)=_
 change (match (bif zm0 P t then some (List.len s) else none) with | some n=>Rs.val (.int .i64 (Int.ofNat n)) h | none=>.stuck)=_
 rw [ht,List.len_eq];rfl
theorem Kb1 {t:TypeId} {sz:Nat} {es:List V} {c:Option Nat} (ht:qX0 P t=true):builtin P .len [t] h [.gsl sz es c]=.val (.int .i64 (es.length:Int)) h:=by
 change (match (bif qX0 P t then some (List.len es) else none) with | some n=>Rs.val (.int .i64 (Int.ofNat n)) h | none=>.stuck)=_
 rw [ht,List.len_eq];rfl
theorem Kc1 {t:TypeId} {sz:Nat} {es:List V} (ht:qX0 P t=true):builtin P .len [t] h [.osl sz es]=.val (.int .i64 (es.length:Int)) h:=by
 change (match (bif qX0 P t then some (List.len es) else none) with | some n=>Rs.val (.int .i64 (Int.ofNat n)) h | none=>.stuck)=_
 rw [ht,List.len_eq];rfl
theorem len_sl {t:TypeId} {r v o n:Nat} {c:Option Nat} (ht:qX0 P t=true):builtin P .len [t] h [.sl r v o n c]=.val (.int .i64 (n:Int)) h:=by
 change (match (bif qX0 P t then some n else none) with | some n=>Rs.val (.int .i64 (Int.ofNat n)) h | none=>.stuck)=_
 rw [ht];rfl
variable {P:Program} {E:Env}
def Fr.st (fr:Fr) (d:Tmp) (v:V):Fr:={ fr with tm:=fr.tm.set undef v d }
def Fr.at' (fr:Fr) (i:Tmp):V:=fr.tm.get undef i
def yx0:V→Bool
 | .fsl _ _ _ _ _=>true
 | _=>false
structure Le (s' s:Fr):Prop where
 fn:s.fn=s'.fn
 n:s.n=s'.n
 marks:s.marks=s'.marks
 defers:s.defers=s'.defers
 round:s.round=s'.round
 dk:s.dk=s'.dk
 did:s.did=s'.did
 slot:∀ i,i<s.n→s'.at' i=qz0∨s'.at' i=s.at' i
 out:∀ i,s.n≤i→s'.at' i=undef∨s'.at' i=qz0
def yM0 (k:Nat):T V:=Nat.rec .e (fun _ ih=>.n ih qz0 ih) k
def mkT (n:Nat) (L:List (Nat×V)):T V:=List.rec (yM0 (zZ0 n)) (fun p _ ih=>bif Nat.blt p.1 n then ih.set undef p.2 p.1 else ih) L
def Fr.on (b:Fr) (L:List (Nat×V)):Fr:={ b with tm:=mkT b.n L }
def base (f n:Nat):Fr:=⟨f,n,.e,[],[],none,none,false⟩
theorem Xf1 (k:Nat):∀ i,(yM0 k).get undef i=undef∨(yM0 k).get undef i=qz0:=by
 induction k with
 | zero=>intro i;exact .inl rfl
 | succ k IH =>
  intro i
  change T.get undef (.n (yM0 k) qz0 (yM0 k)) i=undef∨T.get undef (.n (yM0 k) qz0 (yM0 k)) i=qz0
  cases i with
  | zero=>exact .inr rfl
  | succ i =>
   rw [T.get_n_succ]
   by_cases hm:i%2=0
   ·rw [T.pick_even _ _ _ hm];exact IH _
   ·rw [T.pick_odd _ _ _ hm];exact IH _
theorem Xe1 (k:Nat):∀ i,i<2^k-1→(yM0 k).get undef i=qz0:=by
 induction k with
 | zero=>intro i h;simp at h
 | succ k IH =>
  intro i h
  change T.get undef (.n (yM0 k) qz0 (yM0 k)) i=qz0
  cases i with
  | zero=>rfl
  | succ i =>
   rw [T.get_n_succ]
   have h2:i/2<2^k-1:=by
    have:2^(k+1)=2*2^k:=by rw [Nat.pow_succ];omega
    omega
   by_cases hm:i%2=0
   ·rw [T.pick_even _ _ _ hm];exact IH _ h2
   ·rw [T.pick_odd _ _ _ hm];exact IH _ h2
theorem Kp1 (n:Nat):n≤2^zZ0 n-1:=by
 have:n<2^zZ0 n:=by unfold zZ0;exact Nat.lt_log2_self
 omega
theorem jo1 (n:Nat) (p:Nat×V) (L:List (Nat×V)):mkT n (p::L)=bif Nat.blt p.1 n then (mkT n L).set undef p.2 p.1 else mkT n L:=rfl
theorem ZT0 (n:Nat) (L:List (Nat×V)) (i:Nat) (hi:i<n):(mkT n L).get undef i=qz0∨(∃ v,(i,v)∈L∧(mkT n L).get undef i=v):=by
 induction L with
 | nil=>exact .inl (Xe1 _ _ (Nat.lt_of_lt_of_le hi (Kp1 n)))
 | cons p L IH =>
  rw [jo1]
  have IH':(mkT n L).get undef i=qz0∨∃ v,(i,v)∈p::L∧(mkT n L).get undef i=v:=IH.imp id fun ⟨v,hm,hv⟩=>⟨v,by simp [hm],hv⟩
  cases hb:Nat.blt p.1 n with
  | false=>exact IH'
  | true =>
   change ((mkT n L).set undef p.2 p.1).get undef i=qz0∨∃ v,(i,v)∈p::L∧((mkT n L).set undef p.2 p.1).get undef i=v
   rw [T.get_set]
   by_cases h:p.1=i
   ·rw [if_pos h];exact .inr ⟨p.2,by subst h;simp,rfl⟩
   ·rw [if_neg h];exact IH'
theorem ZU0 (n:Nat) (L:List (Nat×V)) (i:Nat) (hi:n≤i):(mkT n L).get undef i=undef∨(mkT n L).get undef i=qz0:=by
 induction L with
 | nil=>exact Xf1 (zZ0 n) i
 | cons p L IH =>
  rw [jo1]
  cases hb:Nat.blt p.1 n with
  | false=>exact IH
  | true =>
   rw [Nat.blt_eq] at hb
   change ((mkT n L).set undef p.2 p.1).get undef i=undef∨((mkT n L).set undef p.2 p.1).get undef i=qz0
   rw [T.get_set,if_neg (by omega)];exact IH
structure Fine (P:Program) (E:Env):Prop where
 prim:yr0 P E
 names:yq0 P
def Dom (N:Nat) (g:Gh):Prop:=∀ r,N≤r→g.mu r=none∧g.vr r=none
theorem W.domain {B:Ns} {w0 w:World} {g:Gh} {h:Heap} (hW:W B w0 g h w):Dom h.n g:=fun r hr=>by
 obtain ⟨h1,h2⟩:=hW.out r hr
 exact ⟨h1,by rw [hW.ver,h2]⟩
variable {K:Fr→Heap→Prop} {X:Ex→Fr→Heap→Prop} {N:Nat}
section ends
variable {B:Ns} {w0:World} {g0:Gh} {b:Frame} {k:List Item} {cs:List Frame} {m m':Machine}
end ends
theorem Qn1 {g:Gh} {b:Frame} {fr:Fr} {a:Act} (hf:FrOk g b fr a) {o:Oper} (hd:(∃ c,o.op=.defer c)→fr.round=none):o.semAt b.roundOf a.eval=execOp a.eval o:=by
 by_cases hro:fr.round=none
 ·have hb:b.roundOf=none:=by have:=hf.round;rw [hro] at this;exact this
  rw [hb,Oper.semAt_none]
 ·exact Oper.semAt_eq _ _ _ (fun c e=>hro (hd ⟨c,e⟩))
def Cx (P:Program) (E:Env) (f:FuncId) (args:List V) (h:Heap) (R':V→Heap→Prop):Prop :=
 Fine P E→∀ {B:Ns} {w0:World} {g:Gh} {w:World} (cs:List Frame) (us:Array Value),W B w0 g h w→GlobOk E.glob g.S→Rs' g us args→∃ v h',R' v h'∧CallOk P B w0 g cs f us w (.ret v h')
variable {P:Program} {E:Env}
inductive So where
 | val (v:V) (h:Heap)
 | obl (v:V) (h:Heap) (φ:Prop)
 | skip (h:Heap)
 | no
def So.ok (r:Rs):So→Prop
 | .val v h=>r=.val v h
 | .obl v h φ=>φ→r=.val v h
 | .skip h=>r=.skip h
 | .no=>True
def inK (k:IntKind) (n:Int):Prop :=
 match k with
 | .i8=>-128≤n∧n≤127
 | .i16=>-32768≤n∧n≤32767
 | .i32=>-2147483648≤n∧n≤2147483647
 | .i64=>-9223372036854775808≤n∧n≤9223372036854775807
 | .u8=>0≤n∧n≤255
 | .u16=>0≤n∧n≤65535
 | .u32=>0≤n∧n≤4294967295
 | .u64=>0≤n∧n≤18446744073709551615
def zT0 (r:Rs):So :=
 match r with
 | .val v h=>.val v h
 | .skip h=>.skip h
 | _=>.no
def ofO (h:Heap) (o:Option V):So :=
 match o with
 | some v=>.val v h
 | none=>.no
def qg0 (s:List UInt8) (i:Int):Int:=((s.getD i.toNat 0).toNat:Int)
def intS (h:Heap) (op:BinOp) (k:IntKind) (a b:Int):So :=
 match op with
 | .add=>.obl (.int k (a+b)) h (inK k (a+b))
 | .sub=>.obl (.int k (a-b)) h (inK k (a-b))
 | .mul=>.obl (.int k (a*b)) h (inK k (a*b))
 | .quo=>.obl (.int k (a/b)) h (0≤a∧0<b∧inK k (a/b))
 | .rem=>.obl (.int k (a%b)) h (0≤a∧0<b)
 | .eql=>.val (.bool (decide (a=b))) h
 | .neq=>.val (.bool (!decide (a=b))) h
 | .lss=>.val (.bool (decide (a<b))) h
 | .leq=>.val (.bool (decide (a≤b))) h
 | .gtr=>.val (.bool (decide (b<a))) h
 | .geq=>.val (.bool (decide (b≤a))) h
 | op=>ofO h (qF0 op k a b)
def strS (h:Heap) (op:BinOp) (a b:List UInt8):So :=
 match op with
 | .add=>.obl (.str (a++b)) h (a.length+b.length≤1099511627776)
 | .eql=>.val (.bool (decide (a=b))) h
 | .neq=>.val (.bool (!decide (a=b))) h
 | op=>ofO h (jy0 op a b)
def binS (P:Program) (h:Heap) (t:TypeId) (c:Bool) (op:BinOp) (x y:V):So :=
 match x with
 | .int k a=>match y with
  | .int k' b=>bif jm0 op then ofO h (qF0 op k a b) else bif zh0 k k' then intS h op k a b else .no
  | _=>.no
 | .str a=>match y with
  | .str b=>strS h op a b
  | _=>.no
 | x=>ofO h (binOp P h t c op x y)
def unS (h:Heap) (op:UnOp) (x:V):So :=
 match x with
 | .int k n=>match op with
  | .neg=>.obl (.int k (-n)) h (inK k (-n))
  | op=>ofO h (unOp op (.int k n))
 | x=>ofO h (unOp op x)
def yI1 (P:Program) (h:Heap) (t:TypeId) (x i:V):So :=
 match x with
 | .str s=>match i with
  | .int _ j=>bif zm0 P t then .obl (.int .u8 (qg0 s j)) h (0≤j∧j<s.length) else .no
  | _=>.no
 | x=>ofO h (index P t x i)
def YK0 (P:Program) (h:Heap) (t:TypeId) (x i:V):So :=
 match x with
 | .sl r ver o n _=>match i with
  | .int _ j=>match qo0 P t with
   | some e=>bif Nat.ble 1 (size P e)&&Nat.beq (rowSz h r) (size P e) then .obl (.ptr r ver ((o+j.toNat)*size P e)) h (0≤j∧j<n) else .no
   | none=>.no
  | _=>.no
 | .gsl sz es _=>match i with
  | .int _ j=>match qo0 P t with
   | some e=>bif Nat.beq sz (size P e) then .obl (.gptr sz es (j.toNat*sz)) h (0≤j∧j<es.length) else .no
   | none=>.no
  | _=>.no
 | .osl sz es=>match i with
  | .int _ j=>match qo0 P t with
   | some e=>bif Nat.beq sz (size P e) then .obl (.gptr sz es (j.toNat*sz)) h (0≤j∧j<es.length) else .no
   | none=>.no
  | _=>.no
 | x=>ofO h (indexAddr P h t x i)
def jK0:Option V→Option (Option Int)
 | none=>some none
 | some (.int _ n)=>some (some n)
 | _=>none
def zn2 (h:Heap) (s:List UInt8) (lo hi:Option Int):So :=
 match lo with
 | none=>match hi with
  | none=>.val (.str s) h
  | some b=>.obl (.str (s.take b.toNat)) h (0≤b∧b≤s.length)
 | some a=>match hi with
  | none=>.obl (.str (s.drop a.toNat)) h (0≤a∧a≤s.length)
  | some b=>.obl (.str ((s.take b.toNat).drop a.toNat)) h (0≤a∧a≤b∧b≤s.length)
def subC (c:Option Nat) (k:Nat):Option Nat :=
 match c with
 | some c=>some (c-k)
 | none=>none
def zj2 (h:Heap) (sz:Nat) (es:List V) (c:Option Nat) (lo hi:Option Int):So :=
 match lo with
 | none=>match hi with
  | none=>.val (.gsl sz es c) h
  | some b=>.obl (.gsl sz (es.take b.toNat) c) h (0≤b∧b≤es.length)
 | some a=>match hi with
  | none=>.obl (.gsl sz (es.drop a.toNat) (subC c a.toNat)) h (0≤a∧a≤es.length)
  | some b=>.obl (.gsl sz ((es.take b.toNat).drop a.toNat) (subC c a.toNat)) h (0≤a∧a≤b∧b≤es.length)
def zl2 (h:Heap) (r ver o n:Nat) (c:Option Nat) (lo hi:Option Int):So :=
 match lo with
 | none=>match hi with
  | none=>.val (.sl r ver o n c) h
  | some b=>.obl (.sl r ver o b.toNat c) h (0≤b∧b≤n)
 | some a=>match hi with
  | none=>.obl (.sl r ver (o+a.toNat) (n-a.toNat) (subC c a.toNat)) h (0≤a∧a≤n)
  | some b=>.obl (.sl r ver (o+a.toNat) (b.toNat-a.toNat) (subC c a.toNat)) h (0≤a∧a≤b∧b≤n)
def zk2 (h:Heap) (sz:Nat) (es:List V) (lo hi:Option Int):So :=
 match lo with
 | none=>match hi with
  | none=>.val (.osl sz es) h
  | some b=>.obl (.osl sz (es.take b.toNat)) h (0≤b∧b≤es.length)
 | some a=>match hi with
  | none=>.obl (.osl sz (es.drop a.toNat)) h (0≤a∧a≤es.length)
  | some b=>.obl (.osl sz ((es.take b.toNat).drop a.toNat)) h (0≤a∧a≤b∧b≤es.length)
def XU0 (P:Program) (h:Heap) (t:TypeId) (x:V) (lo hi mx:Option V):So :=
 match mx with
 | some _=>ofO h (slice P h t x lo hi mx)
 | none=>match jK0 lo with
  | none=>.no
  | some lo'=>match jK0 hi with
   | none=>.no
   | some hi'=>match x with
    | .str s=>bif zm0 P t then zn2 h s lo' hi' else .no
    | .gsl sz es c=>match qo0 P t with
     | some el=>bif Nat.beq (size P el) sz then zj2 h sz es c lo' hi' else .no
     | none=>.no
    | .sl r ver o n c=>match qo0 P t with
     | some el=>bif Nat.ble 1 (size P el)&&Nat.beq (rowSz h r) (size P el) then zl2 h r ver o n c lo' hi' else .no
     | none=>.no
    | .osl sz es=>match qo0 P t with
     | some el=>bif Nat.beq (size P el) sz&&Nat.ble 1 sz then zk2 h sz es lo' hi' else .no
     | none=>.no
    | x=>ofO h (slice P h t x lo hi none)
def KA0 (P:Program) (h:Heap) (s d:TypeId) (x:V):So :=
 match x with
 | .int _ n=>match P.underlying s with
  | none=>.no
  | some _=>match P.underlying d with
   | some (.int k)=>.obl (.int k n) h (inK k n)
   | _=>ofO h (convert P s d h x)
 | x=>ofO h (convert P s d h x)
def lenS (P:Program) (t:TypeId) (h:Heap) (x:V):So :=
 match x with
 | .str s=>bif zm0 P t then .val (.int .i64 (s.length:Int)) h else .no
 | .gsl _ es _=>bif qX0 P t then .val (.int .i64 (es.length:Int)) h else .no
 | .osl _ es=>bif qX0 P t then .val (.int .i64 (es.length:Int)) h else .no
 | .sl _ _ _ n _=>bif qX0 P t then .val (.int .i64 (n:Int)) h else .no
 | x=>zT0 (builtin P .len [t] h [x])
def maxS (h:Heap) (x y:V) (d:Rs):So :=
 match x with
 | .int k a=>match y with
  | .int _ b=>.val (.int k (max a b)) h
  | _=>zT0 d
 | _=>zT0 d
def minS (h:Heap) (x y:V) (d:Rs):So :=
 match x with
 | .int k a=>match y with
  | .int _ b=>.val (.int k (min a b)) h
  | _=>zT0 d
 | _=>zT0 d
def newS (_P:Program) (h:Heap) (sz:Nat) (y:V):Option (List V) :=
 match y with
 | .gsl sz' es _=>bif Nat.beq sz sz' then some es else none
 | .osl sz' es=>bif Nat.beq sz sz' then some es else none
 | y=>jJ0 h sz y
def Kk0 (P:Program) (t:TypeId) (h:Heap) (x y:V) (d:Rs):So :=
 match qo0 P t with
 | none=>.no
 | some e=>match newS P h (size P e) y with
  | none=>.no
  | some new=>bif Nat.beq (size P e) 0||!(yG0 P e) then .no else
   match x with
   | .sl r ver o n c=>match c with
    | some _=>zT0 d
    | none=>match h.get r with
     | .row ver' ty sz' pub cap es=>match cap with
      | some _=>zT0 d
      | none=>bif Nat.beq (size P e) sz'&&Nat.beq o 0&&Nat.beq ty e then
       .obl (.sl r (Nat.succ ver) 0 (n+new.length) none) (h.set r (.row (Nat.succ ver) ty sz' pub none (es++new)))
        (ver=ver'∧new≠[]∧n=es.length∧pub≤n∧n+new.length≤1099511627776∧(n+new.length)*P.bytesOf e≤1099511627776)
       else .no
     | _=>.no
   | .nils=>.obl (.sl h.n 0 0 new.length none) (newRow h e (size P e) 0 none new) (new≠[]∧new.length≤1099511627776∧new.length*P.bytesOf e≤1099511627776)
   | .gsl sz' es c=>match c with
    | some c=>bif Nat.beq (size P e) sz' then .obl (.sl h.n 0 0 (es.length+new.length) none) (newRow h e sz' 0 none (es++new)) (new≠[]∧c<es.length+new.length∧es.length+new.length≤1099511627776∧(es.length+new.length)*P.bytesOf e≤1099511627776) else .no
    | none=>.no
   | _=>.no
def Kj0 (P:Program) (t:TypeId) (h:Heap) (x y:V) (d:Rs):So :=
 match y with
 | .nils=>zT0 d
 | y=>Kk0 P t h x y d
def Kq0 (P:Program) (b:Builtin) (ts:List TypeId) (h:Heap) (args:List V):So :=
 match b with
 | .len=>match ts with
  | [t]=>(match args with
   | [x]=>lenS P t h x
   | _=>.no)
  | _=>.no
 | .max=>match ts with
  | _::_=>(match args with
   | [x,y]=>maxS h x y (builtin P .max ts h [x,y])
   | args=>zT0 (builtin P .max ts h args))
  | _=>.no
 | .min=>match ts with
  | _::_=>(match args with
   | [x,y]=>minS h x y (builtin P .min ts h [x,y])
   | args=>zT0 (builtin P .min ts h args))
  | _=>.no
 | .append=>match ts with
  | [t,u]=>(match args with
   | [x,y]=>bif zo0 P u then Kj0 P t h x y (builtin P .append ts h [x,y]) else .no
   | _=>.no)
  | _=>.no
 | .recover=>.no
 | b=>zT0 (builtin P b ts h args)
def XB0 (h:Heap) (c:Bool) (a b:V):So :=
 match a with
 | .int k x=>match b with
  | .int k' y=>bif zh0 k k' then .val (.int k (bif c then x else y)) h else ofO h (Bool.rec (some b) (some a) c)
  | b=>ofO h (Bool.rec (some b) (some a) c)
 | .bool x=>match b with
  | .bool y=>.val (.bool (bif c then x else y)) h
  | b=>ofO h (Bool.rec (some b) (some a) c)
 | .str x=>match b with
  | .str y=>.val (.str (bif c then x else y)) h
  | b=>ofO h (Bool.rec (some b) (some a) c)
 | a=>ofO h (Bool.rec (some b) (some a) c)
def s1 (G:Nat→Option V) (tm:T V) (x:Operand) (f:V→So):So :=
 match ev G tm x with
 | some v=>f v
 | none=>.no
def s2 (G:Nat→Option V) (tm:T V) (x y:Operand) (f:V→V→So):So :=
 match ev G tm x with
 | some v=>(match ev G tm y with
  | some w=>f v w
  | none=>.no)
 | none=>.no
def ye0 (lit:Bool) (P:Program) (G:Nat→Option V) (tm:T V) (h:Heap) (o:Oper):So :=
 match o.op with
 | .binOp op t x y _=>s2 G tm x y (binS P h t (qP0 x||qP0 y) op)
 | .unOp op _ x=>s1 G tm x (unS h op)
 | .index t x i=>s2 G tm x i (yI1 P h t)
 | .indexAddr t x i=>s2 G tm x i (YK0 P h t)
 | .convert s d x=>s1 G tm x (KA0 P h s d)
 | .pick c a b=>match ev G tm c with
  | some (.bool t)=>s2 G tm a b (XB0 h t)
  | _=>.no
 | .slice t x lo hi mx=>s1 G tm x fun x=>match evO G tm lo with
  | none=>.no
  | some lo=>match evO G tm hi with
   | none=>.no
   | some hi=>match evO G tm mx with
    | none=>.no
    | some mx=>XU0 P h t x lo hi mx
 | .call c=>match c.callee with
  | .builtin b=>match qc0 (ev G tm) c.args.toList with
   | none=>.no
   | some args=>Kq0 P b c.argTypes.toList h args
  | _=>zT0 (qm0 lit P G tm h o)
 | _=>zT0 (qm0 lit P G tm h o)
theorem yd0 (r:Rs):So.ok r (zT0 r):=by cases r <;> first | rfl | trivial
theorem zq0 (h:Heap) (o:Option V):So.ok (qj0 h o) (ofO h o):=by cases o <;> first | rfl | trivial
theorem Yc0 {k:IntKind} {n:Int} (h:inK k n):zU0 k n=some (.int k n):=by
 rw [Qj0,qy1]
 ·cases k <;> exact h.1
 ·cases k <;> exact h.2
theorem yF1 {b:Int} (h:0<b):ieq b 0=false:=by
 rw [QL0,beq_eq_false_iff_ne];omega
theorem XJ1 (h:Heap) (op:BinOp) (k:IntKind) (a b:Int):So.ok (qj0 h (qF0 op k a b)) (intS h op k a b):=by
 cases op with
 | add=>intro hk;change qj0 h (zU0 k (a+b))=_;rw [Yc0 hk];rfl
 | sub=>intro hk;change qj0 h (zU0 k (a-b))=_;rw [Yc0 hk];rfl
 | mul=>intro hk;change qj0 h (zU0 k (a*b))=_;rw [Yc0 hk];rfl
 | quo =>
  rintro ⟨h1,h2,h3⟩
  change qj0 h (Bool.rec (zU0 k (a.tdiv b)) none (ieq b 0))=_
  rw [yF1 h2,Int.tdiv_eq_ediv_of_nonneg h1,Yc0 h3];rfl
 | rem =>
  rintro ⟨h1,h2⟩
  change qj0 h (Bool.rec (jU0 k (a.tmod b)) none (ieq b 0))=_
  rw [yF1 h2,Int.tmod_eq_emod_of_nonneg h1,yw0];rfl
 | eql=>change qj0 h (qF0 .eql k a b)=_;rw [XD1];rfl
 | neq=>change qj0 h (qF0 .neq k a b)=_;rw [XI1];rfl
 | lss=>change qj0 h (qF0 .lss k a b)=_;rw [XH1];rfl
 | leq=>change qj0 h (qF0 .leq k a b)=_;rw [XG1];rfl
 | gtr=>change qj0 h (qF0 .gtr k a b)=_;rw [XF1];rfl
 | geq=>change qj0 h (qF0 .geq k a b)=_;rw [XE1];rfl
 | _=>exact zq0 h _
theorem zR2 (h:Heap) (op:BinOp) (a b:List UInt8):So.ok (qj0 h (jy0 op a b)) (strS h op a b):=by
 cases op with
 | add=>intro hk;rw [zN2 (a:=a) (b:=b) hk];rfl
 | eql=>change qj0 h (jy0 .eql a b)=_;rw [zO2];rfl
 | neq=>change qj0 h (jy0 .neq a b)=_;rw [zP2];rfl
 | _=>exact zq0 h _
theorem Zu1 (h:Heap) (t:TypeId) (c:Bool) (op:BinOp) (x y:V):So.ok (qj0 h (binOp P h t c op x y)) (binS P h t c op x y):=by
 cases x with
 | int k a =>
  cases y with
  | int k' b =>
   change So.ok (qj0 h (bif jm0 op||zh0 k k' then qF0 op k a b else none)) (bif jm0 op then ofO h (qF0 op k a b) else bif zh0 k k' then intS h op k a b else .no)
   cases h1:jm0 op with
   | true=>exact zq0 h _
   | false =>
    cases h2:zh0 k k' with
    | true=>exact XJ1 h op k a b
    | false=>trivial
  | _=>trivial
 | str a =>
  cases y with
  | str b=>exact zR2 h op a b
  | _=>trivial
 | _=>exact zq0 h _
theorem unS_ok (h:Heap) (op:UnOp) (x:V):So.ok (qj0 h (unOp op x)) (unS h op x):=by
 cases x with
 | int k n =>
  cases op with
  | neg =>
   intro hk
   change qj0 h (zU0 k (0-n))=_
   rw [Int.zero_sub,Yc0 hk];rfl
  | _=>exact zq0 h _
 | _=>exact zq0 h _
theorem Xt0 {k:IntKind} {j:Int} (h:0≤j):natI (.int k j)=some j.toNat:=by
 cases j with
 | ofNat n=>rfl
 | negSucc n=>exact absurd h (by omega)
theorem Xj1 {s:List UInt8} {i:Nat} (h:i<s.length):s[i]?=some (s.getD i 0):=by
 rw [List.getElem?_eq_getElem h,List.getD_eq_getElem?_getD,List.getElem?_eq_getElem h];rfl
theorem Xu1 (h:Heap) (t:TypeId) (x i:V):So.ok (qj0 h (index P t x i)) (yI1 P h t x i):=by
 cases x with
 | str s =>
  cases i with
  | int k j =>
   change So.ok _ (bif zm0 P t then .obl (.int .u8 (qg0 s j)) h (0≤j∧j<s.length) else .no)
   cases ht:zm0 P t with
   | false=>trivial
   | true =>
    rintro ⟨h1,h2⟩
    have hi:j.toNat<s.length:=by omega
    have e:index P t (.str s) (.int k j)=some (QA0 (s.getD j.toNat 0)):=by
     unfold index
     rw [Xt0 h1]
     change (match List.at s j.toNat with | some b=>bif zm0 P t then some (QA0 b) else none | none=>none)=_
     rw [List.at_eq,Xj1 hi,ht];rfl
    rw [e];rfl
  | _=>trivial
 | _=>exact zq0 h _
theorem Xr1 (h:Heap) (t:TypeId) (x i:V):So.ok (qj0 h (indexAddr P h t x i)) (YK0 P h t x i):=by
 cases x with
 | sl r ver o n c =>
  cases i with
  | int k j =>
   unfold YK0
   simp only
   cases hs:qo0 P t with
   | none=>trivial
   | some e =>
    simp only
    cases hb:(Nat.ble 1 (size P e)&&Nat.beq (rowSz h r) (size P e)) with
    | false=>trivial
    | true =>
     rintro ⟨h1,h2⟩
     have e1:Nat.blt j.toNat n=true:=by rw [Nat.blt_eq];omega
     simp only [Bool.and_eq_true] at hb
     have e:indexAddr P h t (.sl r ver o n c) (.int k j)=some (.ptr r ver ((o+j.toNat)*size P e)):=by
      unfold indexAddr
      rw [Xt0 h1]
      simp only [hs,e1,hb.1,hb.2,Bool.and_self,cond_true]
      rfl
     rw [e];rfl
  | _=>trivial
 | gsl sz es c =>
  cases i with
  | int k j =>
   unfold YK0
   simp only
   cases hs:qo0 P t with
   | none=>trivial
   | some e =>
    simp only
    cases hb:Nat.beq sz (size P e) with
    | false=>trivial
    | true =>
     rintro ⟨h1,h2⟩
     have e1:Nat.blt j.toNat (List.len es)=true:=by rw [Nat.blt_eq,List.len_eq];omega
     have e:indexAddr P h t (.gsl sz es c) (.int k j)=some (.gptr sz es (j.toNat*sz)):=by
      unfold indexAddr
      rw [Xt0 h1]
      simp only [hs,e1,hb,Bool.and_self,cond_true]
      rfl
     rw [e];rfl
  | _=>trivial
 | osl sz es =>
  cases i with
  | int k j =>
   unfold YK0
   simp only
   cases hs:qo0 P t with
   | none=>trivial
   | some e =>
    simp only
    cases hb:Nat.beq sz (size P e) with
    | false=>trivial
    | true =>
     rintro ⟨h1,h2⟩
     have e1:Nat.blt j.toNat (List.len es)=true:=by rw [Nat.blt_eq,List.len_eq];omega
     have e:indexAddr P h t (.osl sz es) (.int k j)=some (.gptr sz es (j.toNat*sz)):=by
      unfold indexAddr
      rw [Xt0 h1]
      simp only [hs,e1,hb,Bool.and_self,cond_true]
      rfl
     rw [e];rfl
  | _=>trivial
 | _=>exact zq0 h _
theorem zD0 {d:Nat} {k:IntKind} {j:Int} (h:0≤j):qU0 d (some (.int k j))=some j.toNat:=by
 cases j with
 | ofNat n=>rfl
 | negSucc n=>exact absurd h (by omega)
theorem yi0 {o:Option V} {a:Int} (h:jK0 o=some (some a)):∃ k,o=some (.int k a):=by
 unfold jK0 at h
 split at h
 ·cases h
 ·cases h;exact ⟨_,rfl⟩
 ·cases h
theorem yh0 {o:Option V} (h:jK0 o=some none):o=none:=by
 unfold jK0 at h
 split at h
 ·rfl
 ·cases h
 ·cases h
theorem XY0 {h:Heap} {t:TypeId} {s:List UInt8} {lo hi:Option V} {l e:Nat} (h1:qU0 0 lo=some l) (h2:qU0 s.length hi=some e) (ht:zm0 P t=true) (hle:l≤e) (hel:e≤s.length):slice P h t (.str s) lo hi none=some (.str ((s.take e).drop l)):=by
 unfold slice
 rw [h1]
 simp only [List.len_eq,h2,ht,List.takeN_eq,List.dropN_eq,Bool.true_and]
 have e1:Nat.ble l e=true:=by rw [Nat.ble_eq];exact hle
 have e2:Nat.ble e s.length=true:=by rw [Nat.ble_eq];exact hel
 rw [e1,e2];rfl
theorem XV0 {h:Heap} {t el:TypeId} {sz:Nat} {es:List V} {c:Option Nat} {lo hi:Option V} {l e:Nat} (h1:qU0 0 lo=some l) (h2:qU0 es.length hi=some e) (ht:qo0 P t=some el) (hz:Nat.beq (size P el) sz=true) (hle:l≤e) (hel:e≤es.length):slice P h t (.gsl sz es c) lo hi none=some (.gsl sz ((es.take e).drop l) (jz0 c l)):=by
 unfold slice
 rw [h1]
 simp only [List.len_eq,h2,ht,hz,cond_true]
 unfold XT0
 simp only [List.len_eq,List.takeN_eq,List.dropN_eq]
 have e1:Nat.ble l e=true:=by rw [Nat.ble_eq];exact hle
 have e2:Nat.ble e es.length=true:=by rw [Nat.ble_eq];exact hel
 rw [e1,e2];rfl
theorem XW0 {h:Heap} {t el:TypeId} {sz:Nat} {es:List V} {lo hi:Option V} {l e:Nat} (h1:qU0 0 lo=some l) (h2:qU0 es.length hi=some e) (ht:qo0 P t=some el) (hz:(Nat.beq (size P el) sz&&Nat.ble 1 sz)=true) (hle:l≤e) (hel:e≤es.length):slice P h t (.osl sz es) lo hi none=some (.osl sz ((es.take e).drop l)):=by
 unfold slice
 rw [h1]
 simp only [List.len_eq,h2,ht,hz,List.takeN_eq,List.dropN_eq]
 have e1:Nat.ble l e=true:=by rw [Nat.ble_eq];exact hle
 have e2:Nat.ble e es.length=true:=by rw [Nat.ble_eq];exact hel
 rw [e1,e2];rfl
theorem XX0 {h:Heap} {t el:TypeId} {r ver o n:Nat} {c:Option Nat} {lo hi:Option V} {l e:Nat} (h1:qU0 0 lo=some l) (h2:qU0 n hi=some e) (ht:qo0 P t=some el) (hz:(Nat.ble 1 (size P el)&&Nat.beq (rowSz h r) (size P el))=true) (hle:l≤e) (hel:e≤n):slice P h t (.sl r ver o n c) lo hi none=some (.sl r ver (o+l) (e-l) (jz0 c l)):=by
 unfold slice
 rw [h1]
 simp only [h2,ht,hz,cond_true]
 unfold qp1
 have e1:Nat.ble l e=true:=by rw [Nat.ble_eq];exact hle
 have e2:Nat.ble e n=true:=by rw [Nat.ble_eq];exact hel
 simp only [e1,e2]
 rfl
theorem Kc0 (c:Option Nat):jz0 c 0=c:=by cases c <;> rfl
theorem Kb0 (c:Option Nat) (k:Nat):jz0 c k=subC c k:=by cases c <;> rfl
theorem zm2 (h:Heap) (t:TypeId) (x:V) (lo hi mx:Option V):So.ok (qj0 h (slice P h t x lo hi mx)) (XU0 P h t x lo hi mx):=by
 cases mx with
 | some m=>exact zq0 h _
 | none =>
  unfold XU0
  simp only
  cases hlo:jK0 lo with
  | none=>trivial
  | some lo' =>
   simp only
   cases hhi:jK0 hi with
   | none=>trivial
   | some hi' =>
    simp only
    cases x with
    | str s =>
     simp only
     cases ht:zm0 P t with
     | false=>trivial
     | true =>
      simp only [cond_true]
      cases lo' with
      | none =>
       have b1:=yh0 hlo;subst b1
       cases hi' with
       | none =>
        have b2:=yh0 hhi;subst b2
        change qj0 h _=_
        rw [XY0 (l:=0) (e:=s.length) rfl rfl ht (Nat.zero_le _) (Nat.le_refl _),List.take_length];rfl
       | some b =>
        obtain ⟨k,rfl⟩:=yi0 hhi
        rintro ⟨h1,h2⟩
        rw [XY0 (l:=0) (e:=b.toNat) rfl (zD0 h1) ht (Nat.zero_le _) (by omega)];rfl
      | some a =>
       obtain ⟨k,rfl⟩:=yi0 hlo
       cases hi' with
       | none =>
        have b2:=yh0 hhi;subst b2
        rintro ⟨h1,h2⟩
        rw [XY0 (l:=a.toNat) (e:=s.length) (zD0 h1) rfl ht (by omega) (Nat.le_refl _),List.take_length];rfl
       | some b =>
        obtain ⟨k2,rfl⟩:=yi0 hhi
        rintro ⟨h1,h2,h3⟩
        rw [XY0 (l:=a.toNat) (e:=b.toNat) (zD0 h1) (zD0 (by omega)) ht (by omega) (by omega)];rfl
    | gsl sz es c =>
     simp only
     cases ht:qo0 P t with
     | none=>trivial
     | some el =>
      simp only
      cases hz:Nat.beq (size P el) sz with
      | false=>trivial
      | true =>
       simp only [cond_true]
       cases lo' with
       | none =>
        have b1:=yh0 hlo;subst b1
        cases hi' with
        | none =>
         have b2:=yh0 hhi;subst b2
         change qj0 h _=_
         rw [XV0 (l:=0) (e:=es.length) rfl rfl ht hz (Nat.zero_le _) (Nat.le_refl _),List.take_length,Kc0];rfl
        | some b =>
         obtain ⟨k,rfl⟩:=yi0 hhi
         rintro ⟨h1,h2⟩
         rw [XV0 (l:=0) (e:=b.toNat) rfl (zD0 h1) ht hz (Nat.zero_le _) (by omega),Kc0];rfl
       | some a =>
        obtain ⟨k,rfl⟩:=yi0 hlo
        cases hi' with
        | none =>
         have b2:=yh0 hhi;subst b2
         rintro ⟨h1,h2⟩
         rw [XV0 (l:=a.toNat) (e:=es.length) (zD0 h1) rfl ht hz (by omega) (Nat.le_refl _),List.take_length,Kb0];rfl
        | some b =>
         obtain ⟨k2,rfl⟩:=yi0 hhi
         rintro ⟨h1,h2,h3⟩
         rw [XV0 (l:=a.toNat) (e:=b.toNat) (zD0 h1) (zD0 (by omega)) ht hz (by omega) (by omega),Kb0];rfl
    | osl sz es =>
     simp only
     cases ht:qo0 P t with
     | none=>trivial
     | some el =>
      simp only
      cases hz:(Nat.beq (size P el) sz&&Nat.ble 1 sz) with
      | false=>trivial
      | true =>
       simp only [cond_true]
       cases lo' with
       | none =>
        have b1:=yh0 hlo;subst b1
        cases hi' with
        | none =>
         have b2:=yh0 hhi;subst b2
         change qj0 h _=_
         rw [XW0 (l:=0) (e:=es.length) rfl rfl ht hz (Nat.zero_le _) (Nat.le_refl _),List.take_length];rfl
        | some b =>
         obtain ⟨k,rfl⟩:=yi0 hhi
         rintro ⟨h1,h2⟩
         rw [XW0 (l:=0) (e:=b.toNat) rfl (zD0 h1) ht hz (Nat.zero_le _) (by omega)];rfl
       | some a =>
        obtain ⟨k,rfl⟩:=yi0 hlo
        cases hi' with
        | none =>
         have b2:=yh0 hhi;subst b2
         rintro ⟨h1,h2⟩
         rw [XW0 (l:=a.toNat) (e:=es.length) (zD0 h1) rfl ht hz (by omega) (Nat.le_refl _),List.take_length];rfl
        | some b =>
         obtain ⟨k2,rfl⟩:=yi0 hhi
         rintro ⟨h1,h2,h3⟩
         rw [XW0 (l:=a.toNat) (e:=b.toNat) (zD0 h1) (zD0 (by omega)) ht hz (by omega) (by omega)];rfl
    | sl r ver o n c =>
     simp only
     cases ht:qo0 P t with
     | none=>trivial
     | some el =>
      simp only
      cases hz:(Nat.ble 1 (size P el)&&Nat.beq (rowSz h r) (size P el)) with
      | false=>trivial
      | true =>
       simp only [cond_true]
       cases lo' with
       | none =>
        have b1:=yh0 hlo;subst b1
        cases hi' with
        | none =>
         have b2:=yh0 hhi;subst b2
         change qj0 h _=_
         rw [XX0 (l:=0) (e:=n) rfl rfl ht hz (Nat.zero_le _) (Nat.le_refl _),Kc0];rfl
        | some b =>
         obtain ⟨k,rfl⟩:=yi0 hhi
         rintro ⟨h1,h2⟩
         rw [XX0 (l:=0) (e:=b.toNat) rfl (zD0 h1) ht hz (Nat.zero_le _) (by omega),Kc0];rfl
       | some a =>
        obtain ⟨k,rfl⟩:=yi0 hlo
        cases hi' with
        | none =>
         have b2:=yh0 hhi;subst b2
         rintro ⟨h1,h2⟩
         rw [XX0 (l:=a.toNat) (e:=n) (zD0 h1) rfl ht hz (by omega) (Nat.le_refl _),Kb0];rfl
        | some b =>
         obtain ⟨k2,rfl⟩:=yi0 hhi
         rintro ⟨h1,h2,h3⟩
         rw [XX0 (l:=a.toNat) (e:=b.toNat) (zD0 h1) (zD0 (by omega)) ht hz (by omega) (by omega),Kb0];rfl
    | _=>exact zq0 h _
theorem Yd1 (h:Heap) (s d:TypeId) (x:V):So.ok (qj0 h (convert P s d h x)) (KA0 P h s d x):=by
 cases x with
 | int k n =>
  unfold KA0
  simp only
  cases hs:P.underlying s with
  | none=>trivial
  | some us =>
   simp only
   split
   ·rename_i k' hd
    intro hk
    have e:convert P s d h (.int k n)=some (.int k' n):=by
     unfold convert
     rw [hs,hd]
     change some (V.int k' (Yk0 k' n))=_
     rw [qx1]
     have:=Yc0 hk
     rw [Qj0] at this
     exact this
    rw [e];rfl
   ·exact zq0 h _
 | _=>exact zq0 h _
theorem XZ1 (t:TypeId) (h:Heap) (x:V):So.ok (builtin P .len [t] h [x]) (lenS P t h x):=by
 cases x with
 | str s =>
  unfold lenS
  simp only
  cases ht:zm0 P t with
  | false=>trivial
  | true=>exact Kd1 ht
 | gsl sz es c =>
  unfold lenS
  simp only
  cases ht:qX0 P t with
  | false=>trivial
  | true=>exact Kb1 ht
 | osl sz es =>
  unfold lenS
  simp only
  cases ht:qX0 P t with
  | false=>trivial
  | true=>exact Kc1 ht
 | sl r ver o n c =>
  unfold lenS
  simp only
  cases ht:qX0 P t with
  | false=>trivial
  | true=>exact len_sl ht
 | _=>exact yd0 _
theorem KG1 (a b:Int):(bif ilt a b then b else a)=max a b:=by
 rw [ZG0]
 by_cases h:a<b
 ·rw [decide_eq_true h];show b=_;omega
 ·rw [decide_eq_false h];show a=_;omega
theorem KK1 (a b:Int):(bif ilt b a then b else a)=min a b:=by
 rw [ZG0]
 by_cases h:b<a
 ·rw [decide_eq_true h];show b=_;omega
 ·rw [decide_eq_false h];show a=_;omega
theorem KF1 {t:TypeId} {ts:List TypeId} (h:Heap) (x y:V):So.ok (builtin P .max (t::ts) h [x,y]) (maxS h x y (builtin P .max (t::ts) h [x,y])):=by
 unfold maxS
 split
 ·split
  ·change qj0 h (some (V.int _ (bif ilt _ _ then _ else _)))=_
   rw [KG1];rfl
  ·exact yd0 _
 ·exact yd0 _
theorem KJ1 {t:TypeId} {ts:List TypeId} (h:Heap) (x y:V):So.ok (builtin P .min (t::ts) h [x,y]) (minS h x y (builtin P .min (t::ts) h [x,y])):=by
 unfold minS
 split
 ·split
  ·change qj0 h (some (V.int _ (bif ilt _ _ then _ else _)))=_
   rw [KK1];rfl
  ·exact yd0 _
 ·exact yd0 _
theorem Gk0 {α:Type} {l:List α} (h:l≠[]):qb0 l=false:=by cases l <;> first | rfl | exact absurd rfl h
theorem GC0 {h:Heap} {sz:Nat} {y:V} {new:List V} (hn:newS P h sz y=some new):jJ0 h sz y=some new:=by
 unfold newS at hn
 split at hn
 ·rename_i sz' es c
  change (bif Nat.beq sz sz' then some es else none)=some new
  exact hn
 ·rename_i sz' es
  change (bif Nat.beq sz sz' then some es else none)=some new
  exact hn
 ·exact hn
theorem yq1 {h:Heap} {e sz n:Nat} {es:List V} (hz:yG0 P e=true) (h1:n≤1099511627776) (h2:n*P.bytesOf e≤1099511627776):yl0 P h e sz n es=.val (.sl h.n 0 0 n none) (newRow h e sz 0 none es):=by
 unfold yl0
 have e1:Nat.ble n qL0=true:=by rw [Nat.ble_eq];exact h1
 have e2:Nat.ble (Nat.mul n (P.bytesOf e)) qL0=true:=by rw [Nat.ble_eq];exact h2
 rw [hz,e1,e2];rfl
theorem Kl0 {t e:TypeId} {h:Heap} {x y:V} {new:List V} (ht:qo0 P t=some e) (hn:jJ0 h (size P e) y=some new) (hz0:Nat.beq (size P e) 0=false):append P t h x y=(bif qb0 new then (match x with
 | .nils=>.val x h
 | .sl _ _ _ _ _=>.val x h
 | .gsl _ _ _=>.val x h
 | _=>.stuck)
 else match x with
 | .nils=>yl0 P h e (size P e) (List.len new) new
 | .gsl sz' es c=>match c with
  | some c=>bif Nat.beq (size P e) sz'&&Nat.blt c (Nat.add (List.len es) (List.len new)) then yl0 P h e sz' (Nat.add (List.len es) (List.len new)) (List.app es new) else .stuck
  | none=>.stuck
 | .sl r ver o n c=>Qx0 P h e (size P e) r ver o n c new (List.len new)
 | _=>.stuck):=by
 unfold append
 rw [ht]
 simp only [hn,hz0,cond_false]
 rfl
theorem Zd1 {t u:TypeId} (h:Heap) (x y:V) (hu:zo0 P u=true):So.ok (builtin P .append [t,u] h [x,y]) (Kk0 P t h x y (builtin P .append [t,u] h [x,y])):=by
 have e0:builtin P .append [t,u] h [x,y]=append P t h x y:=by
  change (bif zo0 P u then append P t h x y else bif QN0 P u then jI0 P t h x y else .stuck)=_
  rw [hu];rfl
 unfold Kk0
 cases ht:qo0 P t with
 | none=>trivial
 | some e =>
  simp only
  cases hn:newS P h (size P e) y with
  | none=>trivial
  | some new =>
   have hn:=GC0 hn
   simp only
   cases hb:(Nat.beq (size P e) 0||!(yG0 P e)) with
   | true=>trivial
   | false =>
    simp only [Bool.or_eq_false_iff,Bool.not_eq_false'] at hb
    obtain ⟨hz0,hz⟩:=hb
    simp only [cond_false]
    have ea:=Kl0 (P:=P) (t:=t) (h:=h) (x:=x) ht hn hz0
    cases x with
    | sl r ver o n c =>
     simp only
     cases c with
     | some c=>exact yd0 _
     | none =>
      simp only
      cases hr:h.get r with
      | row ver' ty sz' pub cap es =>
       simp only
       cases cap with
       | some k=>exact yd0 _
       | none =>
        simp only
        cases hc:(Nat.beq (size P e) sz'&&Nat.beq o 0&&Nat.beq ty e) with
        | false=>trivial
        | true =>
         rintro ⟨c1,h1,h2,h3,h4,h5⟩
         rw [e0,ea,Gk0 h1]
         simp only [cond_false]
         unfold Qx0
         rw [hr]
         simp only [Bool.and_eq_true,Nat.beq_eq] at hc
         obtain ⟨⟨c2,c3⟩,c4⟩:=hc
         subst c1 c3 c4
         have b1:Nat.ble (Nat.add 0 n) (List.len es)=true:=by rw [Nat.ble_eq,List.len_eq];show 0+n≤_;omega
         have b2:Nat.ble (Nat.add n (List.len new)) qL0=true:=by rw [Nat.ble_eq,List.len_eq];exact h4
         have b3:Nat.ble (Nat.mul (Nat.add n (List.len new)) (P.bytesOf ty)) qL0=true:=by rw [Nat.ble_eq,List.len_eq];exact h5
         have b4:Nat.ble pub n=true:=by rw [Nat.ble_eq];exact h3
         have b5:Nat.beq (size P ty) sz'=true:=by rw [Nat.beq_eq];exact c2
         have c2':size P ty=sz':=c2
         subst c2'
         simp only [Nat.beq_refl,b1,b2,b3,b4,hz,Bool.and_self,cond_true,List.app_eq,List.takeN_eq]
         rw [List.take_of_length_le (by omega),List.len_eq]
         rfl
      | _=>trivial
    | nils =>
     rintro ⟨h1,h2,h3⟩
     rw [e0,ea,Gk0 h1]
     simp only [cond_false]
     rw [List.len_eq]
     exact yq1 hz h2 h3
    | gsl sz' es c =>
     simp only
     cases c with
     | none=>trivial
     | some c =>
      simp only
      cases hs:Nat.beq (size P e) sz' with
      | false=>trivial
      | true =>
       rintro ⟨h1,h2,h3,h4⟩
       rw [e0,ea,Gk0 h1]
       have b1:Nat.blt c (Nat.add es.length new.length)=true:=by rw [Nat.blt_eq];exact h2
       simp only [cond_false,cond_true,List.len_eq,hs,b1,Bool.and_self,List.app_eq]
       exact yq1 hz h3 h4
    | _=>trivial
theorem Ze1 {t u:TypeId} (h:Heap) (x y:V) (hu:zo0 P u=true):So.ok (builtin P .append [t,u] h [x,y]) (Kj0 P t h x y (builtin P .append [t,u] h [x,y])):=by
 unfold Kj0
 split
 ·exact yd0 _
 ·exact Zd1 h x _ hu
theorem ZF1 (b:Builtin) (ts:List TypeId) (h:Heap) (args:List V) (hb:b≠.recover):So.ok (builtin P b ts h args) (Kq0 P b ts h args):=by
 unfold Kq0
 split
 ·split
  ·split
   ·exact XZ1 _ h _
   ·trivial
  ·trivial
 ·split
  ·split
   ·exact KF1 h _ _
   ·exact yd0 _
  ·trivial
 ·split
  ·split
   ·exact KJ1 h _ _
   ·exact yd0 _
  ·trivial
 ·split
  ·split
   ·rename_i u _ x y
    cases hu:zo0 P u with
    | false=>trivial
    | true=>exact Ze1 h x y hu
   ·trivial
  ·trivial
 ·trivial
 ·exact yd0 _
theorem GG1 (h:Heap) (c:Bool) (a b:V):So.ok (qj0 h (Bool.rec (some b) (some a) c)) (XB0 h c a b):=by
 unfold XB0
 split
 ·split
  ·rename_i k x _ k' y
   cases hk:zh0 k k' with
   | false=>exact zq0 h _
   | true =>
    have:=(Qa0 _ _).1 hk;subst this
    cases c <;> rfl
  ·exact zq0 h _
 ·split
  ·cases c <;> rfl
  ·exact zq0 h _
 ·split
  ·cases c <;> rfl
  ·exact zq0 h _
 ·exact zq0 h _
theorem zi0 {lit:Bool} {G:Nat→Option V} {tm:T V} {h:Heap} {o:Oper} (hb:∀ t len ps,o.op≠.buildSlice t len ps):qm0 lit P G tm h o=qC0 P G tm h o:=by
 cases lit with
 | false=>rfl
 | true =>
  change QW0 (qt0 P G tm h o) (qC0 P G tm h o)=_
  have:qt0 P G tm h o=qC0 P G tm h o:=by
   unfold qt0
   split
   ·rename_i t len ps e;exact absurd e (hb t len ps)
   ·rfl
  rw [this]
  unfold QW0
  split <;> rfl
theorem s1_ok {G:Nat→Option V} {tm:T V} {h:Heap} {x:Operand} {f:V→Option V} {g:V→So} (hg:∀ v,So.ok (qj0 h (f v)) (g v)):So.ok (o1 G tm h x f) (s1 G tm x g):=by
 rw [ZV0]
 unfold s1
 cases ev G tm x with
 | none=>trivial
 | some v=>exact hg v
theorem qj1 {G:Nat→Option V} {tm:T V} {h:Heap} {x y:Operand} {f:V→V→Option V} {g:V→V→So} (hg:∀ v w,So.ok (qj0 h (f v w)) (g v w)):So.ok (o2 G tm h x y f) (s2 G tm x y g):=by
 rw [ZW0]
 unfold s2
 cases ev G tm x with
 | none=>trivial
 | some v =>
  simp only
  cases ev G tm y with
  | none=>trivial
  | some w=>exact hg v w
theorem jD1 (lit:Bool) (G:Nat→Option V) (tm:T V) (h:Heap) (o:Oper):So.ok (qm0 lit P G tm h o) (ye0 lit P G tm h o):=by
 obtain ⟨dst,op,ty,pos,after,guard⟩:=o
 cases op with
 | binOp op t x y b=>rw [zi0 (fun _ _ _ e=>by cases e)];exact qj1 fun v w=>Zu1 h t _ op v w
 | unOp op t x=>rw [zi0 (fun _ _ _ e=>by cases e)];exact s1_ok fun v=>unS_ok h op v
 | index t x i=>rw [zi0 (fun _ _ _ e=>by cases e)];exact qj1 fun v w=>Xu1 h t v w
 | indexAddr t x i=>rw [zi0 (fun _ _ _ e=>by cases e)];exact qj1 fun v w=>Xr1 h t v w
 | convert s d x=>rw [zi0 (fun _ _ _ e=>by cases e)];exact s1_ok fun v=>Yd1 h s d v
 | pick c a b =>
  rw [zi0 (fun _ _ _ e=>by cases e)]
  change So.ok (yY0 G tm h c a b) (match ev G tm c with | some (.bool t)=>s2 G tm a b (XB0 h t) | _=>.no)
  unfold yY0
  cases hc:ev G tm c with
  | none=>trivial
  | some v =>
   cases v with
   | bool t =>
    simp only
    unfold s2
    cases ha:ev G tm a with
    | none=>trivial
    | some va =>
     simp only
     cases hb:ev G tm b with
     | none=>trivial
     | some vb=>exact GG1 h t va vb
   | _=>trivial
 | slice t x lo hi mx =>
  rw [zi0 (fun _ _ _ e=>by cases e)]
  change So.ok (yZ0 P G tm h t x lo hi mx) (s1 G tm x fun x=>match evO G tm lo with
   | none=>.no
   | some lo=>match evO G tm hi with
    | none=>.no
    | some hi=>match evO G tm mx with
     | none=>.no
     | some mx=>XU0 P h t x lo hi mx)
  unfold yZ0 s1
  cases hx:ev G tm x with
  | none=>trivial
  | some v =>
   simp only
   cases h1:evO G tm lo with
   | none=>trivial
   | some lo' =>
    simp only
    cases h2:evO G tm hi with
    | none=>trivial
    | some hi' =>
     simp only
     cases h3:evO G tm mx with
     | none=>trivial
     | some mx'=>exact zm2 h t v lo' hi' mx'
 | call c =>
  unfold ye0
  simp only
  split
  ·rename_i b hb
   rw [zi0 (fun _ _ _ e=>by cases e)]
   change So.ok (zw0 P G tm h c) _
   rw [Xw0]
   cases ha:qc0 (ev G tm) c.args.toList with
   | none=>trivial
   | some args =>
    simp only [hb]
    by_cases hr:b=.recover
    ·subst hr;trivial
    ·have h2:=ZF1 (P:=P) b c.argTypes.toList h args hr
     cases b <;> first | exact h2 | exact absurd rfl hr
  ·exact yd0 _
 | _=>exact yd0 _
variable {P:Program} {E:Env} {K:Fr→Heap→Prop} {X:Ex→Fr→Heap→Prop} {N:Nat}
def jB0 (l:List Prop):Prop:=List.rec True (fun p _ ih=>p∧ih) l
structure SameB (s s':Fr):Prop where
 fn:s'.fn=s.fn
 n:s'.n=s.n
 marks:s'.marks=s.marks
 defers:s'.defers=s.defers
 round:s'.round=s.round
 dk:s'.dk=s.dk
 did:s'.did=s.did
def hp (l:List Obj):Heap:=List.rec (motive:=fun _=>Heap→Heap) (fun h=>h) (fun o _ ih h=>ih (h.new o)) l Heap.empty
def runeAt (s:List UInt8) (pos:Nat):Nat:=(Utf8.decode ⟨⟨s⟩⟩ pos).1
def lenAt (s:List UInt8) (pos:Nat):Nat:=(Utf8.decode ⟨⟨s⟩⟩ pos).2
variable {P:Program} {E:Env} {K:Fr→Heap→Prop} {X:Ex→Fr→Heap→Prop} {N:Nat}
def jd0:Code→List (Code×Code)
 | .seq a b=>jd0 a++jd0 b
 | .cond _ a b=>jd0 a++jd0 b
 | .block _ b=>jd0 b
 | .loop b=>jd0 b
 | .rangeFunc _ _ as bd=>(as,bd)::jd0 bd
 | .scope b=>jd0 b
 | _=>[]
def rAs (P:Program) (f k:Nat):Code :=
 match P.funcs[f]? with
 | some fn=>(match fn.body with
  | some b=>(match (jd0 b)[k]? with
   | some p=>p.1
   | none=>.skip)
  | none=>.skip)
 | none=>.skip
def rBd (P:Program) (f k:Nat):Code :=
 match P.funcs[f]? with
 | some fn=>(match fn.body with
  | some b=>(match (jd0 b)[k]? with
   | some p=>p.2
   | none=>.skip)
  | none=>.skip)
 | none=>.skip
open Go.RowKit Go.ChangeShapes Go.WideShapes
variable {P:Program} {E:Env}
theorem calls_of_true (hN:yq0 P) (hP:yr0 P E) {f:FuncId} {fn:Func} {body:Code} {gs:List V} (hf:P.funcs[f]?=some fn) (hb:fn.body=some body) (hr:Cx P E f gs Heap.empty (fun v _=>v=.bool true)) {W:World} {us:Array Value} (hG:GlobOk E.glob (allOf W)) (hs:Rs' (Gh.data (allOf W)) us gs) :
 Calls P f us W fun e W'=>e=.returned (.bool true)∧Below W.heap.size W W':=by
 intro cs
 obtain ⟨v,h',rfl,g',w',u,_,hW,hR,hret⟩:=hr ⟨hP,hN⟩ cs us (AM.W.start (Za1 W)) hG hs
 have:=hR.bool_inv;subst this
 rcases hret with h | ⟨_,fr,h1,h2,h3⟩
 ·rw [qf1 hN hf hb] at h;cases h
 ·exact ⟨.returned (.bool true),w',fr,⟨rfl,hW.low.below⟩,h1,h2,h3⟩
theorem args_nil {g:Gh}:Rs' g #[] []:=⟨rfl,fun i v x a _=>by simp at a⟩
theorem args_cons {g:Gh} {v:Value} {x:V} {us:List Value} {xs:List V} (h:R g v x) (hs:Rs' g us.toArray xs):Rs' g (v::us).toArray (x::xs):=by
 refine ⟨by have:=hs.1;simp at this ⊢;exact this,fun i u y a b=>?_⟩
 cases i with
 | zero=>simp at a b;subst a;subst b;exact h
 | succ i=>exact hs.2 i u y (by simpa using a) (by simpa using b)
def bV (b:UInt8):V:=.int .u8 (b.toNat:Int)
def Bs (x:V) (l:List UInt8):Prop:=(x=.nils∧l=[])∨x=.gsl 1 (l.map bV) none
theorem ZM1 {zs:List Int} (hw:∀ n∈zs,(Lit.int .u8 n).wf=true):∃ l:List UInt8,zs.map (V.int .u8)=l.map bV:=by
 refine ⟨zs.map fun n=>UInt8.ofNat n.toNat,?_⟩
 rw [List.map_map]
 refine List.map_congr_left fun n hn=>?_
 have:=bounds_u8 (hw n hn)
 show V.int .u8 n=V.int .u8 ((UInt8.ofNat n.toNat).toNat:Int)
 rw [UInt8.toNat_ofNat',Nat.mod_eq_of_lt (by omega)]
 congr 1;omega
theorem ZL1 {W:World} {b off len cap:Nat} {zs:List Int} (hl:len≤cap) (hz:zs.length=cap) (hcell:∀ i,i<zs.length→W.cell? ⟨b,off+i,none⟩=some (.int .u8 (zs.getD i 0))):R (Gh.data (allOf W)) (.slice (some ⟨b,off,none⟩) len cap) (.gsl 1 ((zs.take len).map (V.int .u8)) none):=by
 have hlen:((zs.take len).map (V.int .u8)).length=len:=by simp;omega
 have hel:∀ (i:Nat) e,((zs.take len).map (V.int .u8))[i]?=some e→i<zs.length∧e=.int .u8 (zs.getD i 0):=by
  intro i e he
  have hi:i<len:=by have:=qd0 he;omega
  refine ⟨by omega,?_⟩
  rw [List.getElem?_map,List.getElem?_take_of_lt hi] at he
  rw [List.getD_eq_getElem?_getD]
  cases hq:zs[i]? with
  | none=>rw [hq] at he;cases he
  | some z=>rw [hq] at he;cases he;rfl
 have:=GR.gsl (S:=allOf W) (b:=b) (off:=off) (sz:=1) (cap:=cap) (c:=none) (es:=(zs.take len).map (V.int .u8)) (fun i _=>.int .u8 (zs.getD i 0)) Nat.one_pos
  (fun i e he=>by obtain ⟨_,rfl⟩:=hel i e he;exact ⟨rfl,rfl⟩)
  (fun i e j x he hx=>by
   obtain ⟨hi,rfl⟩:=hel i e he
   cases j with
   | zero=>exact ⟨by rw [Nat.mul_one,Nat.add_zero];exact Gt0 (hcell i hi) rfl,rfl⟩
   | succ j=>simp [V.cells] at hx)
  (fun _ e=>by cases e) (by omega)
  (fun i e j x he hx=>by
   obtain ⟨hi,rfl⟩:=hel i e he
   cases j with
   | zero=>simp [V.cells] at hx;subst hx;exact .int _ _
   | succ j=>simp [V.cells] at hx)
 rw [hlen] at this
 exact .gnd this
section
variable {H:Type} {enc:TypeId×Value→H}
theorem jy1 {w:World} {r:Reach} {base:Nat} {t e:TypeId} {v:Value} (ht:P.underlying t=some (.slice e)) (h:Value.okWide P w r base t v):v=.slice none 0 0∨∃ a len cap,v=.slice (some a) len cap∧a.spot=none:=by
 simp only [Value.okWide,ht,Cell.okWide] at h
 unfold Cell.ok at h
 rw [ht] at h
 split at h <;> simp_all
 exact h.2.2.2.1
theorem open_bytes {W:World} {r:Reach} {b0:Nat} {t e:TypeId} {v:Value} {d:DataW H} {ps:List MemPlace} (ht:P.underlying t=some (.slice e)) (he:P.underlying e=some (.int .u8)) (hc:P.cellsOf e=1)
 (hval:Value.okWide P W r b0 t v) (hd:DataW.Trod enc P W 0 (fun _=>true) true t v d ps) :
 (∃ x l,Bs x l∧R (Gh.data (allOf W)) v x)∧∀ W',Below W.heap.size W W'→∃ ps',DataW.Trod enc P W' 0 (fun b=>decide (b<W.heap.size)) true t v d ps':=by
 obtain ⟨fuel,hf⟩:=hd
 rcases jy1 ht hval with rfl | ⟨a,len,cap,rfl,hsp⟩
 ·refine ⟨⟨.nils,[],.inl ⟨rfl,rfl⟩,.gnd .nils⟩,fun W' hb=>⟨[],1,?_⟩⟩
  rcases open_ints ht he hc hf with ⟨_,e2⟩ | ⟨a,len,cap,zs,e1,_⟩
  ·cases e2
   simp [DataW.trod,Value.cells,ht]
  ·simp [Value.cells] at e1
 ·rcases open_ints ht he hc hf with ⟨e1,_⟩ | ⟨a',len',cap',zs,e1,_,hl,hm,hz,e2,hcell,hw⟩
  ·simp [Value.cells] at e1
  ·simp only [Value.cells,List.cons.injEq,Value.slice.injEq,Option.some.injEq,and_true] at e1
   obtain ⟨rfl,rfl,rfl⟩:=e1
   obtain ⟨b,off,spot⟩:=a
   simp only at hsp;subst hsp
   simp only [if_true] at hz
   have hcell':∀ i,i<zs.length→W.cell? ⟨b,off+i,none⟩=some (.int .u8 (zs.getD i 0)):=fun i hi=>by rw [← add_plain];exact hcell i hi
   refine ⟨?_,fun W' hb=>?_⟩
   ·obtain ⟨l,hl'⟩:=ZM1 (zs:=zs.take len) fun n hn=>hw n (List.mem_of_mem_take hn)
    refine ⟨_,l,.inr rfl,?_⟩
    rw [← hl']
    exact ZL1 hl hz hcell'
   ·simp only [Prod.mk.injEq] at e2
    obtain ⟨rfl,rfl⟩:=e2
    have hblk:0<zs.length→b<W.heap.size:=fun h0=>by
     have:=hcell' 0 h0
     unfold World.cell? at this
     rcases Nat.lt_or_ge b W.heap.size with h | h
     ·exact h
     ·simp [Array.getElem?_eq_none h] at this
    refine ⟨_,2,shut_ints' 0 ht he hc (Nat.zero_le _) hl hm ?_ (fun i hi=>?_) hw⟩
    ·by_cases hb':b<W.heap.size
     ·simp only [decide_eq_true hb',if_true];exact hz
     ·have:zs.length=0:=by
       rcases Nat.eq_zero_or_pos zs.length with h | h
       ·exact h
       ·exact absurd (hblk h) hb'
      split <;> omega
    ·have:=hblk (by omega)
     rw [← hcell' i hi]
     exact hb.cell (p:=⟨b,off+i,none⟩) this
end
variable {P:Program} {E:Env} {K:Fr→Heap→Prop} {X:Ex→Fr→Heap→Prop} {N:Nat}
structure Vw (N:Nat) (s:Fr) (h:Heap) (s':Fr) (h':Heap):Prop where
 of:∀ {B:Ns} {w0 w:World} {g0 g:Gh} {b:Frame} {a:Act},Dom N g0→Grown B g0 g→W B w0 g h w→FrOk g b s a→∃ g',Grown B g0 g'∧W B w0 g' h' w∧FrOk g' b s' a
def Wk (x x':V):Prop:=∀ (g:Gh) (v:Value),R g v x→R g v x'
theorem Wk.refl (x:V):Wk x x:=fun _ _ h=>h
theorem Wk.nils (sz:Nat):Wk .nils (.osl sz []):=fun g v h=>by have:=h.nils_inv;subst this;exact .gnd .oslN
theorem Wk.gsl {sz:Nat} {es:List V} {c:Option Nat}:Wk (.gsl sz es c) (.osl sz es):=fun g v h=>by
 have:=h.gsl_inv
 cases this with
 | gsl val hsz hc hS hcap hle hh=>exact .gnd (.oslS (.gsl val hsz hc hS (fun _ e=>by cases e) hle hh))
theorem Wk.agg {xs ys:List V} (hn:xs.length=ys.length) (h:∀ (i:Nat) x y,xs[i]?=some x→ys[i]?=some y→Wk x y):Wk (.agg xs) (.agg ys):=fun g v hR=>by
 obtain ⟨cs,rfl,h1,h2,h3⟩:=hR.agg_inv
 refine .agg (h1.trans hn) h2 fun i v y p q=>?_
 obtain ⟨x,hx⟩:=qr0 xs i (by rw [hn];exact qd0 q)
 exact h i x y hx q g v (h3 i v x p hx)
structure Wke (e e':V):Prop where
 len:e'.cells.length=e.cells.length
 flat:e'.flat=true
 cells:∀ (j:Nat) x x',e.cells[j]?=some x→e'.cells[j]?=some x'→Wk x x'
abbrev Ren:=List (Nat×Bool)
def verN (N j ver:Nat):Nat:=bif Nat.blt j N then ver else 0
structure RenOk (N:Nat) (ρ:Ren) (h:Heap) (g g':Gh):Prop where
 S:g'.S=g.S
 mu:∀ j p,ρ[j]?=some p→g'.mu j=g.mu p.1
 vr:∀ j p v,ρ[j]?=some p→g.vr p.1=some v→g'.vr j=some (verN N j v)
 ver:∀ r,g.vr r=match h.get r with | .row v _ _ _ _ _=>some v | .rowS v _ _ _ _ _=>some v | _=>none
 vn:∀ j p,ρ[j]?=some p→g.vr p.1=none→g'.vr j=none
 low:∀ r,r<N→∃ p,ρ[r]?=some p∧p.1=r
def hpF (l:List Obj):Heap→Heap:=List.rec (motive:=fun _=>Heap→Heap) (fun h=>h) (fun o _ ih h=>ih (h.new o)) l
theorem hpF_n (l:List Obj):∀ h:Heap,(hpF l h).n=h.n+l.length:=by
 induction l with
 | nil=>intro h;rfl
 | cons o l IH =>
  intro h
  change (hpF l (h.new o)).n=_
  rw [IH,Heap.n_new,List.length_cons];omega
theorem Xg0 (l:List Obj):∀ (h:Heap) (r:Nat),(hpF l h).get r=if h.n≤r∧r<h.n+l.length then l.getD (r-h.n) .dead else h.get r:=by
 induction l with
 | nil =>
  intro h r
  rw [if_neg (by simp)];rfl
 | cons o l IH =>
  intro h r
  change (hpF l (h.new o)).get r=_
  rw [IH,Heap.n_new,Heap.get_new,List.length_cons]
  by_cases h1:h.n+1≤r∧r<h.n+1+l.length
  ·rw [if_pos h1,if_pos (by omega),show r-h.n=(r-(h.n+1))+1 by omega];rfl
  ·rw [if_neg h1]
   by_cases h2:h.n=r
   ·subst h2
    rw [if_pos rfl,if_pos (by omega),Nat.sub_self];rfl
   ·rw [if_neg h2,if_neg (by omega)]
theorem hp_n (l:List Obj):(hp l).n=l.length:=by
 have:=hpF_n l Heap.empty
 change (hp l).n=0+l.length at this
 omega
theorem Gd0 (l:List Obj) (r:Nat):(hp l).get r=l.getD r .dead:=by
 have:=Xg0 l Heap.empty r
 change (hp l).get r=if 0≤r∧r<0+l.length then l.getD (r-0) .dead else Obj.dead at this
 rw [this]
 split
 ·rw [Nat.sub_zero]
 ·rename_i h1
  rw [List.getD_eq_getElem?_getD,List.getElem?_eq_none (by omega)];rfl
def Wks (xs ys:List V):Prop:=xs.length=ys.length∧∀ (i:Nat) x y,xs[i]?=some x→ys[i]?=some y→Wk x y
theorem Wks.nil:Wks [] []:=⟨rfl,fun i x y h _=>by simp at h⟩
theorem Wks.cons {x y:V} {xs ys:List V} (h:Wk x y) (t:Wks xs ys):Wks (x::xs) (y::ys):=by
 refine ⟨by simp [t.1],fun i a b p q=>?_⟩
 cases i with
 | zero=>simp at p q;subst p;subst q;exact h
 | succ i=>exact t.2 i a b (by simpa using p) (by simpa using q)
theorem Wk.aggs {xs ys:List V} (h:Wks xs ys):Wk (.agg xs) (.agg ys):=.agg h.1 h.2
variable {P:Program} {E:Env}
variable {P:Program} {E:Env} {K:Fr→Heap→Prop} {X:Ex→Fr→Heap→Prop} {N:Nat} {ih:Task→Res}
def okS (r:Nat×Nat) (e:Nat×Option Nat):Bool:=tb e.1 r.1||jp0 r.2 e.2
def freeOp (P:Program) (o:Op):Bool :=
 match o with
 | .move _=>true
 | .assign _=>true
 | .binOp b _ _ _ _=>(match b with
  | .eql=>false
  | .neq=>false
  | _=>true)
 | .slice t _ _ _ _=>zm0 P t
 | .fieldAddr ..=>true
 | .build ..=>true
 | .extract ..=>true
 | _=>false
def isAl:Op→Bool
 | .alloc _=>true
 | .box ..=>true
 | _=>false
def isLd:Op→Bool
 | .load ..=>true
 | _=>false
abbrev CurR:=List ((Nat×Nat)×Bool)
def outsR (al:Bool) (cur:CurR):List (Nat×Nat):=List.rec [] (fun x _ ih=>bif al&&x.2 then ih else x.1::ih) cur
def keepR (al:Bool) (cur:CurR):CurR:=List.rec [] (fun x _ ih=>bif al&&x.2 then x::ih else ih) cur
def statD (P:Program) (E:Env) (l:List DOp):Nat→List (Nat×Option Nat)→List (Nat×Nat)→CurR→Bool :=
 List.rec (motive:=fun _=>Nat→List (Nat×Option Nat)→List (Nat×Nat)→CurR→Bool)
  (fun pb _ old _=>qV0 (fun r=>okS r (pb,none)) old)
  (fun d _ ihl pb past old cur=>bif d.w then (bif qV0 (fun r=>okS r (pb,some d.i)) old then ihl d.b ((pb,some d.i)::past) (List.app (outsR (qb0 past&&isAl d.o.op) cur) old) (keepR (qb0 past&&isAl d.o.op) cur) else false)
   else bif zR0 E d.o.op||freeOp P d.o.op then ihl pb past old cur else (bif qV0 (fun e=>okS (d.i,d.b) e) past then ihl pb past old (((d.i,d.b),isLd d.o.op)::cur) else false)) l
def drawn (P:Program) (E:Env) (all:List Oper):Bool :=
 P.follows .mixedOrders&&(match QF0 E all with
 | some l=>statD P E l 0 [] [] []
 | none=>false)
def litD (P:Program) (G:Nat→Option V) (tm:T V) (h:Heap) (o:Oper):So :=
 match o.op with
 | .buildSlice _ _ _=>(match qt0 P G tm h o with
  | .val v h'=>.val v h'
  | _=>.no)
 | _=>ye0 true P G tm h o
theorem Kf1 (G:Nat→Option V) (tm:T V) (h:Heap) (o:Oper):So.ok (qt0 P G tm h o) (litD P G tm h o):=by
 by_cases hb:∃ t len ps,o.op=.buildSlice t len ps
 ·obtain ⟨t,len,ps,hb⟩:=hb
  unfold litD
  rw [hb]
  simp only
  cases qt0 P G tm h o with
  | val v h'=>rfl
  | _=>trivial
 ·have hb':∀ t len ps,o.op≠.buildSlice t len ps:=fun t len ps e=>hb ⟨t,len,ps,e⟩
  have e1:litD P G tm h o=ye0 true P G tm h o:=by
   unfold litD
   split
   ·rename_i t len ps e;exact absurd e (hb' t len ps)
   ·rfl
  have e2:qt0 P G tm h o=qm0 true P G tm h o:=by
   rw [zi0 hb']
   unfold qt0
   split
   ·rename_i t len ps e;exact absurd e (hb' t len ps)
   ·rfl
  rw [e1,e2]
  exact jD1 (P:=P) true G tm h o
open Go.RowKit Go.ChangeShapes Go.WideShapes Go.Deep
variable {P:Program} {H:Type} {enc:TypeId×Value→H}
theorem zw2 {w:World} {a:Addr} {v:Value} (h:w.cell? a=some v):a.spot=none:=by
 unfold World.cell? at h
 split at h
 ·cases hs:a.spot with
  | none=>rfl
  | some s=>rw [hs] at h;simp at h
 ·cases h
theorem qF1 (a:Addr):a.add 0=a:=by unfold Addr.add;rfl
def qB1 (W:World) (cs:List Value) (x:V):Prop:=x.cells.length=cs.length∧x.flat=true∧∀ (j:Nat) c z,cs[j]?=some c→x.cells[j]?=some z→GR (allOf W) c z∧c.oneCell'=true
def RowsR (Q:DataW H→V→Prop) (d:DataW H) (es:List V):Prop:=(d=.nil∧es=[])∨∃ ds sp,d=.slice ds sp∧ds.length=es.length∧∀ (i:Nat) d x,ds[i]?=some d→es[i]?=some x→Q d x
theorem RowsR.mem {Q:DataW H→V→Prop} {d:DataW H} {es:List V} (h:RowsR Q d es) {x:V} (hx:x∈es):∃ d,Q d x:=by
 rcases h with ⟨_,rfl⟩ | ⟨ds,sp,_,hl,h⟩
 ·cases hx
 ·obtain ⟨i,hi,rfl⟩:=List.mem_iff_getElem.1 hx
  exact ⟨ds[i]'(by omega),h i _ _ (List.getElem?_eq_getElem _) (List.getElem?_eq_getElem _)⟩
theorem Gk1 {W:World} {t e:TypeId} {Q:DataW H→V→Prop} (ht:P.underlying t=some (.slice e)) (hsz:0<P.cellsOf e)
 (hel:∀ n cs y,DataW.trod enc P W 0 (fun _=>true) true n e cs=some y→cs.length=P.cellsOf e→∃ x:V,qB1 W cs x∧Q y.1 x)
 {n:Nat} {cs:List Value} {y:DataW H×List MemPlace} (h:DataW.trod enc P W 0 (fun _=>true) true n t cs=some y) :
 ∃ v,cs=[v]∧v.oneCell'=true∧∃ es:List V,RowsR Q y.1 es∧GR (allOf W) v (.osl (P.cellsOf e) es):=by
 rcases DataW.trod_slice ht h with ⟨hcs,hy⟩ | ⟨a,len,cap,elems,rest,m,_,hcs,hy,_,hl,_,hlen,hE,hR,_⟩
 ·exact ⟨_,hcs,rfl,[],.inl ⟨by rw [hy],rfl⟩,.oslN⟩
 ·have each:∀ i,i<cap→∃ cs' y',W.cells? 0 (a.add (i*P.cellsOf e)) (P.cellsOf e)=some cs'∧DataW.trod enc P W 0 (fun _=>true) true m e cs'=some y'∧(i<len→elems[i]?=some y'):=by
   intro i hi
   have fin:∀ y',(W.cells? 0 (a.add (i*P.cellsOf e)) (P.cellsOf e)).bind (DataW.trod enc P W 0 (fun _=>true) true m e)=some y'→∃ cs',W.cells? 0 (a.add (i*P.cellsOf e)) (P.cellsOf e)=some cs'∧DataW.trod enc P W 0 (fun _=>true) true m e cs'=some y':=fun y' hy=>by
    rw [Option.bind_eq_some_iff] at hy
    obtain ⟨cs',h1,h2⟩:=hy
    exact ⟨cs',h1,h2⟩
   rcases Nat.lt_or_ge i len with q | q
   ·obtain ⟨y',hy⟩:=qr0 elems i (by omega)
    obtain ⟨cs',f1,f2⟩:=fin y' ((hE i q).trans hy)
    exact ⟨cs',y',f1,f2,fun _=>hy⟩
   ·obtain ⟨r1,r2⟩:=hR rfl
    obtain ⟨y',hy⟩:=qr0 rest (i-len) (by omega)
    have:=r2 (i-len) (by omega)
    rw [show len+(i-len)=i by omega] at this
    obtain ⟨cs',f1,f2⟩:=fin y' (this.trans hy)
    exact ⟨cs',y',f1,f2,fun p=>absurd p (by omega)⟩
  subst hcs
  refine ⟨_,rfl,rfl,?_⟩
  rcases Nat.eq_zero_or_pos cap with h0 | h0
  ·subst h0
   obtain rfl:len=0:=by omega
   exact ⟨[],.inr ⟨_,_,by rw [hy],by simp [hlen],fun i d x _ hx=>by simp at hx⟩,.oslN⟩
  ·have hsp:a.spot=none:=by
    obtain ⟨cs',y',h1,_⟩:=each 0 h0
    obtain ⟨_,h2,h3⟩:=World.cells?_some h1
    have h4:=h3 0 hsz
    rw [Nat.zero_mul,qF1,qF1] at h4
    obtain ⟨c,hc⟩:=qr0 cs' 0 (by omega)
    exact zw2 (h4.trans hc)
   obtain ⟨b,off,sp⟩:=a
   simp only at hsp
   subst hsp
   have all:∀ i,∃ q:List Value×V,i<len→(q.1.length=P.cellsOf e∧(∀ j,j<P.cellsOf e→W.cell? ⟨b,off+i*P.cellsOf e+j,none⟩=q.1[j]?)∧qB1 W q.1 q.2∧∀ d,(elems.map (·.1))[i]?=some d→Q d q.2):=by
    intro i
    by_cases hi:i<len
    ·obtain ⟨cs',y',h1,h2,he⟩:=each i (by omega)
     obtain ⟨_,h3,h4⟩:=World.cells?_some h1
     obtain ⟨x,hx,hq⟩:=hel m cs' y' h2 h3
     refine ⟨(cs',x),fun _=>⟨h3,fun j hj=>?_,hx,fun d hd=>by
      rw [List.getElem?_map,he hi] at hd
      cases hd
      exact hq⟩⟩
     have:=h4 j hj
     rw [Addr.add_mk,Addr.add_mk] at this
     exact this
    ·exact ⟨([],.nils),fun q=>absurd q hi⟩
   obtain ⟨F,hF⟩:=Classical.axiomOfChoice all
   have hlen':((List.range len).map fun i=>(F i).2).length=len:=by simp
   have get:∀ (i:Nat) x,((List.range len).map fun i=>(F i).2)[i]?=some x→i<len∧x=(F i).2:=fun i x hx=>by
    have hi:i<len:=by have:=qd0 hx;omega
    rw [List.getElem?_map,List.getElem?_range hi] at hx
    cases hx
    exact ⟨hi,rfl⟩
   refine ⟨(List.range len).map fun i=>(F i).2,.inr ⟨elems.map (·.1),rest.map (·.1),by rw [hy],by simp [hlen],fun i d x hd hx=>?_⟩,.oslS ?_⟩
   ·obtain ⟨hi,rfl⟩:=get i x hx
    exact (hF i hi).2.2.2 d hd
   ·have key:∀ (i:Nat) x (j:Nat) z,((List.range len).map fun i=>(F i).2)[i]?=some x→x.cells[j]?=some z→∃ c,(F i).1[j]?=some c∧W.cell? ⟨b,off+i*P.cellsOf e+j,none⟩=some c∧GR (allOf W) c z∧c.oneCell'=true:=by
     intro i x j z hx hz
     obtain ⟨hi,rfl⟩:=get i x hx
     obtain ⟨h1,h2,⟨h3,_,h5⟩,_⟩:=hF i hi
     have hj:j<(F i).1.length:=by rw [← h3];exact qd0 hz
     obtain ⟨c,hc⟩:=qr0 (F i).1 j hj
     obtain ⟨g1,g2⟩:=h5 j c z hc hz
     exact ⟨c,hc,(h2 j (by omega)).trans hc,g1,g2⟩
    have:=GR.gsl (S:=allOf W) (b:=b) (off:=off) (sz:=P.cellsOf e) (cap:=cap) (c:=none) (es:=(List.range len).map fun i=>(F i).2) (fun i j=>(F i).1.getD j Go.undef) hsz
     (fun i x hx=>by
      obtain ⟨hi,rfl⟩:=get i x hx
      obtain ⟨h1,_,⟨h3,h4,_⟩,_⟩:=hF i hi
      exact ⟨h3.trans h1,h4⟩)
     (fun i x j z hx hz=>by
      obtain ⟨c,hc,h2,_,h4⟩:=key i x j z hx hz
      have e:(F i).1.getD j Go.undef=c:=by rw [List.getD_eq_getElem?_getD,hc];rfl
      simp only [e]
      exact ⟨Gt0 h2 h4,h4⟩)
     (fun _ q=>(nomatch q)) (by rw [hlen'];omega)
     (fun i x j z hx hz=>by
      obtain ⟨c,hc,_,h3,_⟩:=key i x j z hx hz
      have e:(F i).1.getD j Go.undef=c:=by rw [List.getD_eq_getElem?_getD,hc];rfl
      simp only [e]
      exact h3)
    rw [hlen'] at this
    exact this
def Many (d:DataW H) (n:Nat):Prop:=(d=.nil∧n=0)∨∃ ds sp,d=.slice ds sp∧ds.length=n
theorem RowsR.many {Q:DataW H→V→Prop} {d:DataW H} {es:List V} (h:RowsR Q d es):Many d es.length:=by
 rcases h with ⟨a,rfl⟩ | ⟨ds,sp,a,hl,_⟩
 ·exact .inl ⟨a,rfl⟩
 ·exact .inr ⟨ds,sp,a,hl⟩
theorem open_marks {W:World} {t e:TypeId} (ht:P.underlying t=some (.slice e)) (he:P.underlying e=some .bool) (hc:P.cellsOf e=1) {n:Nat} {cs:List Value} {y:DataW H×List MemPlace} (h:DataW.trod enc P W 0 (fun _=>true) true n t cs=some y) :
 ∃ v,cs=[v]∧v.oneCell'=true∧∃ l:List Bool,Many y.1 l.length∧GR (allOf W) v (.osl 1 (l.map V.bool)):=by
 obtain ⟨v,h1,h2,es,h3,h4⟩:=Gk1 (Q:=fun _ x=>∃ b,x=.bool b) ht (by rw [hc];exact Nat.one_pos) (fun n cs y hy hl=>by
  obtain ⟨b,h1,h2⟩:=DataW.trod_bool he hy
  subst h1
  refine ⟨.bool b,⟨rfl,rfl,fun j c z p q=>?_⟩,_,rfl⟩
  cases j with
  | zero=>cases p;cases q;exact ⟨.bool b,rfl⟩
  | succ j=>simp at p) h
 rw [hc] at h4
 have hm:=h3.many
 have:∃ l:List Bool,es=l.map V.bool:=by
  replace h3:∀ x,x∈es→∃ b,x=V.bool b:=fun x hx=>(h3.mem hx).elim fun _ q=>q
  clear h4 hm
  induction es with
  | nil=>exact ⟨[],rfl⟩
  | cons x es ih =>
   obtain ⟨l,hl⟩:=ih (fun x hx=>h3 x (by simp [hx]))
   obtain ⟨b,rfl⟩:=h3 x (by simp)
   exact ⟨b::l,by rw [hl];rfl⟩
 obtain ⟨l,rfl⟩:=this
 exact ⟨v,h1,h2,l,by simpa using hm,h4⟩
def QP0 (x:Int×List UInt8×Int×List (List UInt8)):V:=.agg [.int .i64 x.1,.str x.2.1,.int .i64 x.2.2.1,.osl 1 (x.2.2.2.map V.str)]
structure Bulk (U:DataW H→Nat) (UA:List (DataW H)→Nat):Prop where
 nil:UA []=0
 cons:∀ d l,UA (d::l)=U d+UA l
 slice:∀ a b,U (.slice a b)=UA a+UA b+1
 agg:∀ l,U (.agg l)=UA l+1
 one:∀ d,1≤U d
theorem Bulk.len {U:DataW H→Nat} {UA:List (DataW H)→Nat} (h:Bulk U UA) (l:List (DataW H)):l.length≤UA l:=by
 induction l with
 | nil=>exact Nat.zero_le _
 | cons d l ih=>have:=h.one d;rw [h.cons,List.length_cons];omega
theorem Bulk.many {U:DataW H→Nat} {UA:List (DataW H)→Nat} (h:Bulk U UA) {d:DataW H} {n:Nat} (hm:Many d n):n+1≤U d:=by
 rcases hm with ⟨rfl,rfl⟩ | ⟨ds,sp,rfl,rfl⟩
 ·exact h.one _
 ·have:=h.len ds;rw [h.slice];omega
theorem Bulk.items {U:DataW H→Nat} {UA:List (DataW H)→Nat} (h:Bulk U UA) {d:DataW H} {l:List (Int×List UInt8×Int×List (List UInt8))}
 (hr:RowsR (fun d x=>∃ i,x=QP0 i∧∃ a b n,d=.agg [a,b,n]∧Many n i.2.2.2.length) d (l.map QP0)):(l.map fun i=>1+i.2.2.2.length).sum≤U d:=by
 rcases hr with ⟨_,q⟩ | ⟨ds,sp,rfl,hl,hq⟩
 ·cases l with
  | nil=>exact Nat.zero_le _
  | cons x l=>cases q
 ·rw [h.slice]
  have key:∀ (l:List (Int×List UInt8×Int×List (List UInt8))) (ds:List (DataW H)),ds.length=(l.map QP0).length→(∀ (i:Nat) d x,ds[i]?=some d→(l.map QP0)[i]?=some x→∃ i,x=QP0 i∧∃ a b n,d=.agg [a,b,n]∧Many n i.2.2.2.length)→(l.map fun i=>1+i.2.2.2.length).sum≤UA ds:=by
   intro l
   induction l with
   | nil=>intro ds _ _;exact Nat.zero_le _
   | cons x l ih =>
    intro ds hl hq
    cases ds with
    | nil=>simp at hl
    | cons d ds =>
     have h1:=ih ds (by simpa using hl) (fun i d x a b=>hq (i+1) d x (by simpa using a) (by simpa using b))
     obtain ⟨i,e,a,b,n,rfl,hm⟩:=hq 0 d (QP0 x) rfl rfl
     have e3:i.2.2.2.length=x.2.2.2.length:=by
      have:=congrArg (fun v=>match v with | V.agg [_,_,_,.osl _ l]=>l.length | _=>0) e
      simpa [QP0] using this.symm
     have h2:=h.many hm
     rw [h.cons,h.agg,h.cons,h.cons,h.cons,h.nil,List.map_cons,List.sum_cons]
     omega
  have:=key l ds hl hq
  omega
theorem slice_cells {W:World} {r:Reach} {b0:Nat} {t e:TypeId} {v:Value} (ht:P.underlying t=some (.slice e)) (hval:Value.okWide P W r b0 t v):v.cells.toList=[v]:=by
 rcases jy1 ht hval with rfl | ⟨a,len,cap,rfl,_⟩ <;> rfl
theorem arg_R {W:World} {v v':Value} {x:V} (h1:v.cells.toList=[v]) (h2:v.cells.toList=[v']) (h3:GR (allOf W) v' x):R (Gh.data (allOf W)) v x:=by
 rw [h1] at h2
 cases h2
 exact .gnd h3
variable {P:Program} {E:Env}
def rnV (f:Nat→Option Nat) (d:Nat):V→Option V :=
 Nat.rec (motive:=fun _=>V→Option V) (fun _=>none) (fun _ ih v=>match v with
  | .ptr r ver off=>(match f r with
   | some j=>some (.ptr j ver off)
   | none=>none)
  | .sl r ver o n c=>(match f r with
   | some j=>some (.sl j ver o n c)
   | none=>none)
  | .map r=>(match f r with
   | some j=>some (.map j)
   | none=>none)
  | .iter r=>(match f r with
   | some j=>some (.iter j)
   | none=>none)
  | .agg vs=>(match qc0 ih vs with
   | some l=>some (.agg l)
   | none=>none)
  | .tup vs=>(match qc0 ih vs with
   | some l=>some (.tup l)
   | none=>none)
  | .iface t x=>(match ih x with
   | some y=>some (.iface t y)
   | none=>none)
  | .func fn a b=>(match fn with
   | .func g=>(match qc0 ih a with
    | some a'=>(match qc0 ih b with
     | some b'=>some (.func (.func g) a' b')
     | none=>none)
    | none=>none)
   | _=>none)
  | .fsl _ _ _ _ _=>none
  | .int a b=>some (.int a b)
  | .bool b=>some (.bool b)
  | .str s=>some (.str s)
  | .nilp=>some .nilp
  | .nils=>some .nils
  | .nilm=>some .nilm
  | .nilf=>some .nilf
  | .nili=>some .nili
  | .gsl a b c=>some (.gsl a b c)
  | .osl a b=>some (.osl a b)
  | .gmap a b=>some (.gmap a b)
  | .gptr a b c=>some (.gptr a b c)
  | .imod a b c=>some (.imod a b c)
  | .any=>some .any) d
theorem yE0 {f:Nat→Option Nat} {g g':Gh} (hS:g'.S=g.S) (hf:∀ r j,f r=some j→g'.mu j=g.mu r∧g'.vr j=g.vr r) (d:Nat):∀ {v:Value} {x y:V},R g v x→rnV f d x=some y→R g' v y:=by
 induction d with
 | zero=>intro v x y _ h;cases h
 | succ d IH =>
  intro v x y hR hy
  have lst:∀ {xs ys:List V} {us:Array Value},qc0 (rnV f d) xs=some ys→us.size=xs.length→(∀ (i:Nat) v x,us[i]?=some v→xs[i]?=some x→R g v x)→us.size=ys.length∧∀ (i:Nat) v x,us[i]?=some v→ys[i]?=some x→R g' v x:=by
   intro xs ys us hm hs hR
   obtain ⟨p1,p2⟩:=zH0 hm
   refine ⟨by rw [hs,p1],fun i v y a c=>?_⟩
   obtain ⟨x,hx⟩:=qr0 xs i (by rw [← p1];exact qd0 c)
   obtain ⟨y',hy',hf⟩:=p2 i x hx
   rw [c] at hy';cases hy'
   exact IH (hR i v x a hx) hf
  have dat:GR g.S v x→R g' v x:=fun hg=>.gnd (by rw [hS];exact hg)
  cases x with
  | int a c=>cases hy;have:=hR.int_inv;subst this;exact .gnd (.int _ _)
  | bool b=>cases hy;have:=hR.bool_inv;subst this;exact .gnd (.bool _)
  | str s=>cases hy;obtain ⟨s,rfl,h⟩:=hR.str_inv;exact .gnd (.str h)
  | nilp=>cases hy;have:=hR.nilp_inv;subst this;exact .gnd .nilp
  | nils=>cases hy;have:=hR.nils_inv;subst this;exact .gnd .nils
  | nilm=>cases hy;have:=hR.nilm_inv;subst this;exact .gnd .nilm
  | nilf=>cases hy;have:=hR.nilf_inv;subst this;exact .gnd .nilf
  | nili=>cases hy;have:=hR.nili_inv;subst this;exact .gnd .nili
  | gsl a b c=>cases hy;exact dat hR.gsl_inv
  | osl a b=>cases hy;cases hR with | gnd h=>exact dat h
  | gmap a b=>cases hy;exact dat hR.gmap_inv
  | gptr a b c=>cases hy;exact dat hR.gptr_inv
  | imod k m r=>cases hy;obtain ⟨n,rfl,h1,h2⟩:=hR.imod_inv;exact .imod h1 h2
  | any=>cases hy;exact .any hR.any_inv
  | fsl a b c e p=>cases hy
  | ptr r ver off =>
   change (match f r with | some j=>some (V.ptr j ver off) | none=>none)=some y at hy
   cases hj:f r with
   | none=>rw [hj] at hy;cases hy
   | some j =>
    rw [hj] at hy;cases hy
    obtain ⟨h1,h2⟩:=hf r j hj
    obtain ⟨a,v',rfl,hv,hle,h⟩:=hR.ptr_inv
    exact .ptr (h2.trans hv) hle fun e=>by rw [h1];exact h e
  | sl r ver o n c =>
   change (match f r with | some j=>some (V.sl j ver o n c) | none=>none)=some y at hy
   cases hj:f r with
   | none=>rw [hj] at hy;cases hy
   | some j =>
    rw [hj] at hy;cases hy
    obtain ⟨h1,h2⟩:=hf r j hj
    obtain ⟨a,cp,v',rfl,hv,hle,hn,hc,h⟩:=hR.sl_inv
    exact .sl (h2.trans hv) hle hn hc fun e=>by rw [h1];exact h e
  | map r =>
   change (match f r with | some j=>some (V.map j) | none=>none)=some y at hy
   cases hj:f r with
   | none=>rw [hj] at hy;cases hy
   | some j =>
    rw [hj] at hy;cases hy
    obtain ⟨h1,h2⟩:=hf r j hj
    obtain ⟨b,k,rfl,hv,h⟩:=hR.map_inv
    exact .map (h2.trans hv) (h1.trans h)
  | iter r =>
   change (match f r with | some j=>some (V.iter j) | none=>none)=some y at hy
   cases hj:f r with
   | none=>rw [hj] at hy;cases hy
   | some j =>
    rw [hj] at hy;cases hy
    obtain ⟨h1,h2⟩:=hf r j hj
    obtain ⟨b,k,rfl,hv,h⟩:=hR.iter_inv
    exact .iter (h2.trans hv) (h1.trans h)
  | agg vs =>
   change (match qc0 (rnV f d) vs with | some l=>some (V.agg l) | none=>none)=some y at hy
   cases hm:qc0 (rnV f d) vs with
   | none=>rw [hm] at hy;cases hy
   | some l =>
    rw [hm] at hy;cases hy
    obtain ⟨cs,rfl,hn,h1,h⟩:=hR.agg_inv
    obtain ⟨q1,q2⟩:=lst hm hn h
    exact .agg q1 h1 q2
  | tup vs =>
   change (match qc0 (rnV f d) vs with | some l=>some (V.tup l) | none=>none)=some y at hy
   cases hm:qc0 (rnV f d) vs with
   | none=>rw [hm] at hy;cases hy
   | some l =>
    rw [hm] at hy;cases hy
    obtain ⟨cs,rfl,hn,h⟩:=hR.tup_inv
    obtain ⟨q1,q2⟩:=lst hm hn h
    exact .tup q1 q2
  | iface t z =>
   change (match rnV f d z with | some y=>some (V.iface t y) | none=>none)=some y at hy
   cases hm:rnV f d z with
   | none=>rw [hm] at hy;cases hy
   | some l =>
    rw [hm] at hy;cases hy
    obtain ⟨u,rfl,h⟩:=hR.iface_inv
    exact .iface (IH h hm)
  | func fn a b =>
   cases fn with
   | func q =>
    change (match qc0 (rnV f d) a with | some a'=>(match qc0 (rnV f d) b with | some b'=>some (V.func (.func q) a' b') | none=>none) | none=>none)=some y at hy
    cases ha:qc0 (rnV f d) a with
    | none=>rw [ha] at hy;cases hy
    | some a' =>
     rw [ha] at hy
     cases hb:qc0 (rnV f d) b with
     | none=>rw [hb] at hy;cases hy
     | some b' =>
      rw [hb] at hy;cases hy
      obtain ⟨as,bs,rfl,e1,e2,h1,h2⟩:=hR.func_inv (fun l=>by simp)
      obtain ⟨p1,p2⟩:=lst ha e1 h1
      obtain ⟨q1,q2⟩:=lst hb e2 h2
      exact .func (fun l=>by simp) p1 q1 p2 q2
   | _=>cases hy
theorem Qa1 {f:Nat→Option Nat} {d:Nat} {x y:V} (h:rnV f (d+1) x=some y) (hf:x.flat=true):y.flat=true∧y.cells.length=x.cells.length∧∀ (j:Nat) u,x.cells[j]?=some u→∃ z,y.cells[j]?=some z∧(rnV f (d+1) u=some z∨rnV f d u=some z):=by
 have one:y.flat=true→y.cells=[y]→x.cells=[x]→y.flat=true∧y.cells.length=x.cells.length∧∀ (j:Nat) u,x.cells[j]?=some u→∃ z,y.cells[j]?=some z∧(rnV f (d+1) u=some z∨rnV f d u=some z):=fun p q r=>by
  rw [q,r]
  refine ⟨p,rfl,fun j u e=>?_⟩
  cases j with
  | zero=>simp at e;subst e;exact ⟨y,rfl,.inl h⟩
  | succ j=>simp at e
 cases x with
 | agg vs =>
  change (match qc0 (rnV f d) vs with | some l=>some (V.agg l) | none=>none)=some y at h
  cases hm:qc0 (rnV f d) vs with
  | none=>rw [hm] at h;cases h
  | some l =>
   rw [hm] at h;cases h
   obtain ⟨p1,p2⟩:=zH0 hm
   exact ⟨rfl,p1,fun j u e=>let ⟨z,a,b⟩:=p2 j u e;⟨z,a,.inr b⟩⟩
 | tup vs=>cases hf
 | fsl=>cases hf
 | ptr r ver off =>
  change (match f r with | some j=>some (V.ptr j ver off) | none=>none)=some y at h
  cases hj:f r with
  | none=>rw [hj] at h;cases h
  | some j=>rw [hj] at h;cases h;exact one rfl rfl rfl
 | sl r ver o n c =>
  change (match f r with | some j=>some (V.sl j ver o n c) | none=>none)=some y at h
  cases hj:f r with
  | none=>rw [hj] at h;cases h
  | some j=>rw [hj] at h;cases h;exact one rfl rfl rfl
 | map r =>
  change (match f r with | some j=>some (V.map j) | none=>none)=some y at h
  cases hj:f r with
  | none=>rw [hj] at h;cases h
  | some j=>rw [hj] at h;cases h;exact one rfl rfl rfl
 | iter r =>
  change (match f r with | some j=>some (V.iter j) | none=>none)=some y at h
  cases hj:f r with
  | none=>rw [hj] at h;cases h
  | some j=>rw [hj] at h;cases h;exact one rfl rfl rfl
 | iface t z =>
  change (match rnV f d z with | some y=>some (V.iface t y) | none=>none)=some y at h
  cases hm:rnV f d z with
  | none=>rw [hm] at h;cases h
  | some l=>rw [hm] at h;cases h;exact one rfl rfl rfl
 | func fn a b =>
  cases fn with
  | func q =>
   change (match qc0 (rnV f d) a with | some a'=>(match qc0 (rnV f d) b with | some b'=>some (V.func (.func q) a' b') | none=>none) | none=>none)=some y at h
   split at h
   ·split at h
    ·cases h;exact one rfl rfl rfl
    ·cases h
   ·cases h
  | _=>cases h
 | _=>cases h;exact one rfl rfl rfl
def rnP (f:Nat→Option Nat) (p:V×V):Option (V×V) :=
 match rnV f 8 p.1 with
 | some a=>match rnV f 8 p.2 with
  | some b=>some (a,b)
  | none=>none
 | none=>none
theorem qE2 {f:Nat→Option Nat} {p q:V×V} (h:rnP f p=some q):rnV f 8 p.1=some q.1∧rnV f 8 p.2=some q.2:=by
 unfold rnP at h
 split at h
 ·rename_i a ha
  split at h
  ·rename_i b hb;cases h;exact ⟨ha,hb⟩
  ·cases h
 ·cases h
def rnO (f:Nat→Option Nat) (o:Obj):Option Obj :=
 match o with
 | .row ver ty sz pub cap es=>(match qc0 (rnV f 8) es with
  | some es'=>some (.row ver ty sz pub cap es')
  | none=>none)
 | .rowS ver ty sz pub l x=>(match qc0 (rnV f 8) l with
  | some l'=>(match rnV f 8 x with
   | some x'=>some (.rowS ver ty sz pub l' x')
   | none=>none)
  | none=>none)
 | .map es=>(match qc0 (rnP f) es with
  | some es'=>some (.map es')
  | none=>none)
 | .siter s pos=>some (.siter s pos)
 | .dead=>some .dead
 | _=>none
theorem Kz1 {α β:Type} {f:α→Option β} {l:List α} {l':List β} {x:α} {x':β} (h:qc0 f l=some l') (hx:f x=some x'):qc0 f (l++[x])=some (l'++[x']):=by
 induction l generalizing l' with
 | nil=>cases h;rw [List.nil_append,yA0,hx];rfl
 | cons y l IH =>
  rw [yA0] at h
  cases hy:f y with
  | none=>rw [hy] at h;cases h
  | some y' =>
   rw [hy] at h
   cases hl:qc0 f l with
   | none=>rw [hl] at h;cases h
   | some l2 =>
    rw [hl] at h;cases h
    rw [List.cons_append,yA0,hy,IH hl];rfl
theorem GZ0 {f:Nat→Option Nat} {g g':Gh} (hS:g'.S=g.S) (hf:∀ r j,f r=some j→g'.mu j=g.mu r∧g'.vr j=g.vr r) {w:World} {x:Nat×Nat×Nat} {o o':Obj} (h:ObjOk g w x o) (ho:rnO f o=some o'):ObjOk g' w x o':=by
 have row:∀ {ver ty sz pub cap es o'},ObjOk g w x (.row ver ty sz pub cap es)→rnO f (.row ver ty sz pub cap es)=some o'→ObjOk g' w x o':=by
  clear h ho
  intro ver ty sz pub cap es o' h ho
  change (match qc0 (rnV f 8) es with | some es'=>some (Obj.row ver ty sz pub cap es') | none=>none)=some o' at ho
  cases hm:qc0 (rnV f 8) es with
  | none=>rw [hm] at ho;cases ho
  | some es' =>
   rw [hm] at ho;cases ho
   obtain ⟨e1,C,fr,hrow⟩:=h
   obtain ⟨m1,m2⟩:=zH0 hm
   have back:∀ (i:Nat) e',es'[i]?=some e'→∃ e,es[i]?=some e∧rnV f 8 e=some e':=fun i e' he'=>by
    obtain ⟨e,he⟩:=qr0 es i (by rw [← m1];exact qd0 he')
    obtain ⟨e2,q1,q2⟩:=m2 i e he
    rw [he'] at q1;cases q1
    exact ⟨e,he,q2⟩
   refine ⟨e1,C,fr,hrow.at_,hrow.csize,hrow.pos,by rw [m1];exact hrow.fits,by rw [m1];exact hrow.pubs,hrow.caps,fun i e' he'=>?_,fun i e' j y' he' hy'=>?_,fun o v hv=>hrow.shut o v (by rw [← hS];exact hv),hrow.ice⟩
   ·obtain ⟨e,he,q⟩:=back i e' he'
    obtain ⟨b1,b2⟩:=hrow.elems i e he
    obtain ⟨c1,c2,_⟩:=Qa1 q b2
    exact ⟨c2.trans b1,c1⟩
   ·obtain ⟨e,he,q⟩:=back i e' he'
    obtain ⟨b1,b2⟩:=hrow.elems i e he
    obtain ⟨c1,c2,c3⟩:=Qa1 q b2
    obtain ⟨y,hy⟩:=qr0 e.cells j (by rw [← c2];exact qd0 hy')
    obtain ⟨v,a1,a2,a3⟩:=hrow.cells i e j y he hy
    obtain ⟨z,z1,z2⟩:=c3 j y hy
    rw [hy'] at z1;cases z1
    exact ⟨v,a1,a2,z2.elim (yE0 hS hf _ a3) (yE0 hS hf _ a3)⟩
 cases o with
 | row ver ty sz pub cap es=>exact row h ho
 | rowS ver ty sz pub l y =>
  change (match qc0 (rnV f 8) l with | some l'=>(match rnV f 8 y with | some y'=>some (Obj.rowS ver ty sz pub l' y') | none=>none) | none=>none)=some o' at ho
  cases hm:qc0 (rnV f 8) l with
  | none=>rw [hm] at ho;cases ho
  | some l' =>
   rw [hm] at ho
   simp only at ho
   cases hy:rnV f 8 y with
   | none=>rw [hy] at ho;cases ho
   | some y' =>
    rw [hy] at ho;cases ho
    refine row (ver:=ver) (ty:=ty) (sz:=sz) (pub:=pub) (cap:=none) (es:=l++[y]) (o':=.row ver ty sz pub none (l'++[y'])) h ?_
    unfold rnO
    simp only
    rw [Kz1 hm hy]
 | map es =>
  change (match qc0 (rnP f) es with | some es'=>some (Obj.map es') | none=>none)=some o' at ho
  cases hm:qc0 (rnP f) es with
  | none=>rw [hm] at ho;cases ho
  | some es' =>
   rw [hm] at ho;cases ho
   obtain ⟨h0,M,clock,h1,h2,h3,h4⟩:=h
   obtain ⟨m1,m2⟩:=zH0 hm
   refine ⟨fun o v=>by rw [hS];exact h0 o v,M,clock,h1,h2.trans m1.symm,fun i e p a b=>?_,h4⟩
   obtain ⟨q,hq⟩:=qr0 es i (by rw [← m1];exact qd0 b)
   obtain ⟨p2,q1,q2⟩:=m2 i q hq
   rw [b] at q1;cases q1
   obtain ⟨r1,r2⟩:=qE2 q2
   exact ⟨yE0 hS hf _ (h3 i e q a hq).1 r1,yE0 hS hf _ (h3 i e q a hq).2 r2⟩
 | siter s pos=>cases ho;exact h
 | dead=>cases ho;trivial
 | _=>cases ho
theorem qa1 {f:Nat→Option Nat} {o o':Obj} (ho:rnO f o=some o'):qH0 o'=qH0 o:=by
 cases o with
 | row ver ty sz pub cap es =>
  change (match qc0 (rnV f 8) es with | some es'=>some (Obj.row ver ty sz pub cap es') | none=>none)=some o' at ho
  split at ho
  ·cases ho;rfl
  ·cases ho
 | rowS ver ty sz pub l y =>
  change (match qc0 (rnV f 8) l with | some l'=>(match rnV f 8 y with | some y'=>some (Obj.rowS ver ty sz pub l' y') | none=>none) | none=>none)=some o' at ho
  split at ho
  ·split at ho
   ·cases ho;rfl
   ·cases ho
  ·cases ho
 | map es =>
  change (match qc0 (rnP f) es with | some es'=>some (Obj.map es') | none=>none)=some o' at ho
  split at ho
  ·cases ho;rfl
  ·cases ho
 | siter s pos=>cases ho;rfl
 | dead=>cases ho;rfl
 | _=>cases ho
def ql0 (ρ:List Nat) (r:Nat):Option Nat:=List.rec (motive:=fun _=>Nat→Option Nat) (fun _=>none) (fun p _ ih j=>bif Nat.beq p r then some j else ih (Nat.succ j)) ρ 0
theorem jL1 {r:Nat} (ρ:List Nat):∀ (k:Nat),(∀ j,(List.rec (motive:=fun _=>Nat→Option Nat) (fun _=>none) (fun p _ ih j=>bif Nat.beq p r then some j else ih (Nat.succ j)) ρ k:Option Nat)=some j→k≤j∧ρ[j-k]?=some r)∧((List.rec (motive:=fun _=>Nat→Option Nat) (fun _=>none) (fun p _ ih j=>bif Nat.beq p r then some j else ih (Nat.succ j)) ρ k:Option Nat)=none→r∉ρ):=by
 induction ρ with
 | nil=>intro k;exact ⟨(fun j h=>by cases h),fun _=>by simp⟩
 | cons p ρ IH =>
  intro k
  obtain ⟨i1,i2⟩:=IH (Nat.succ k)
  cases hb:Nat.beq p r with
  | true =>
   have hb':=hb
   rw [Nat.beq_eq] at hb'
   refine ⟨fun j h=>?_,fun h=>?_⟩
   ·change (bif Nat.beq p r then some k else _)=some j at h
    rw [hb] at h;cases h
    exact ⟨Nat.le_refl _,by simp [hb']⟩
   ·change (bif Nat.beq p r then some k else _)=none at h
    rw [hb] at h;cases h
  | false =>
   have hb':p≠r:=fun e=>by rw [← Nat.beq_eq,hb] at e;cases e
   refine ⟨fun j h=>?_,fun h=>?_⟩
   ·change (bif Nat.beq p r then some k else _)=some j at h
    rw [hb] at h
    obtain ⟨h1,h2⟩:=i1 j h
    refine ⟨by omega,?_⟩
    obtain ⟨m,rfl⟩:∃ m,j=k+1+m:=⟨j-(k+1),by omega⟩
    rw [show k+1+m-Nat.succ k=m by omega] at h2
    rw [show k+1+m-k=m+1 by omega]
    simpa using h2
   ·change (bif Nat.beq p r then some k else _)=none at h
    rw [hb] at h
    simp only [List.mem_cons,not_or]
    exact ⟨fun e=>hb' e.symm,i2 h⟩
theorem zN0 {ρ:List Nat} {r j:Nat} (h:ql0 ρ r=some j):ρ[j]?=some r:=by
 have:=((jL1 ρ 0).1 j h).2
 simpa using this
theorem XD0 {ρ:List Nat} {r:Nat} (h:ql0 ρ r=none):r∉ρ:=(jL1 ρ 0).2 h
theorem GO1 {ρ:List Nat} (hn:ρ.Nodup) {r j:Nat} (h:ρ[j]?=some r):ql0 ρ r=some j:=by
 cases hp:ql0 ρ r with
 | none=>exact absurd (List.mem_of_getElem? h) (XD0 hp)
 | some i =>
  have hi:=zN0 hp
  rw [(List.getElem?_inj (qd0 hi) hn).1 (hi.trans h.symm)]
def Gh.pull (g:Gh) (ρ:List Nat):Gh:=⟨fun j=>match ρ[j]? with | some r=>g.mu r | none=>none,fun j=>match ρ[j]? with | some r=>g.vr r | none=>none,g.S⟩
theorem Gh.pull_at {g:Gh} {ρ:List Nat} {j r:Nat} (h:ρ[j]?=some r):(g.pull ρ).mu j=g.mu r∧(g.pull ρ).vr j=g.vr r:=by simp [Gh.pull,h]
theorem Gh.pull_no {g:Gh} {ρ:List Nat} {j:Nat} (h:ρ.length≤j):(g.pull ρ).mu j=none∧(g.pull ρ).vr j=none:=by simp [Gh.pull,List.getElem?_eq_none h]
theorem Gh.pull_mu {g:Gh} {ρ:List Nat} {j:Nat} {x:Nat×Nat×Nat} (h:(g.pull ρ).mu j=some x):∃ r,ρ[j]?=some r∧g.mu r=some x:=by
 cases hr:ρ[j]? with
 | none=>simp [Gh.pull,hr] at h
 | some r=>exact ⟨r,rfl,by simpa [Gh.pull,hr] using h⟩
theorem W.pullF {B:Ns} {w0:World} {g:Gh} {h:Heap} {w:World} (hW:W B w0 g h w) {ρ:List Nat} {os:List Obj} (ob:Nat→Obj) (hob:∀ r x,g.mu r=some x→ObjOk g w x (ob r)) (hov:∀ r,qH0 (ob r)=qH0 (h.get r)) (hn:ρ.Nodup) (hlt:∀ r,r∈ρ→r<h.n) {rf:Obj→Option Obj} (hrok:∀ x o o',ObjOk g w x o→rf o=some o'→ObjOk (g.pull ρ) w x o') (hrver:∀ o o',rf o=some o'→qH0 o'=qH0 o) (hos:qc0 (fun r=>rf (ob r)) ρ=some os):W B w0 (g.pull ρ) (hp os) w:=by
 obtain ⟨m1,m2⟩:=zH0 hos
 refine ⟨hW.low,hW.base,hW.shut,fun j hj=>?_,fun j hj=>?_,fun j=>?_,fun j x hx=>?_,fun i j x y hx hy e=>?_,fun j x hx=>?_⟩
 ·rw [hp_n,m1] at hj
  obtain ⟨r,hr⟩:=qr0 ρ j hj
  obtain ⟨x,hx⟩:=hW.dom r (hlt r (List.mem_of_getElem? hr))
  exact ⟨x,(Gh.pull_at hr).1.trans hx⟩
 ·rw [hp_n,m1] at hj
  refine ⟨(Gh.pull_no hj).1,?_⟩
  rw [Gd0,List.getD_eq_getElem?_getD,List.getElem?_eq_none (by rw [m1];exact hj)];rfl
 ·rw [Gd0,List.getD_eq_getElem?_getD]
  rcases Nat.lt_or_ge j ρ.length with hj | hj
  ·obtain ⟨r,hr⟩:=qr0 ρ j hj
   obtain ⟨o,ho,hro⟩:=m2 j r hr
   rw [ho,Option.getD_some,(Gh.pull_at hr).2,hW.ver']
   have:=(hrver _ _ hro).trans (hov r)
   rw [← this];cases o <;> rfl
  ·rw [(Gh.pull_no hj).2,List.getElem?_eq_none (by rw [m1];exact hj)];rfl
 ·obtain ⟨r,hr,hx⟩:=Gh.pull_mu hx
  obtain ⟨o,ho,hro⟩:=m2 j r hr
  rw [Gd0,List.getD_eq_getElem?_getD,ho,Option.getD_some]
  exact hrok x _ _ (hob r x hx) hro
 ·obtain ⟨r,hr,hx⟩:=Gh.pull_mu hx
  obtain ⟨q,hq,hy⟩:=Gh.pull_mu hy
  have:=hW.inj r q x y hx hy e
  subst this
  exact (List.getElem?_inj (qd0 hr) hn).1 (hr.trans hq.symm)
 ·obtain ⟨r,hr,hx⟩:=Gh.pull_mu hx
  exact hW.high r x hx
theorem Gh.pull_pos {g:Gh} {ρ:List Nat}:∀ r j,ql0 ρ r=some j→(g.pull ρ).mu j=g.mu r∧(g.pull ρ).vr j=g.vr r:=fun _ _ e=>Gh.pull_at (zN0 e)
theorem W.pullG {B:Ns} {w0:World} {g:Gh} {h:Heap} {w:World} (hW:W B w0 g h w) {ρ:List Nat} {os:List Obj} (ob:Nat→Obj) (hob:∀ r x,g.mu r=some x→ObjOk g w x (ob r)) (hov:∀ r,qH0 (ob r)=qH0 (h.get r)) (hn:ρ.Nodup) (hlt:∀ r,r∈ρ→r<h.n) (hos:qc0 (fun r=>rnO (ql0 ρ) (ob r)) ρ=some os):W B w0 (g.pull ρ) (hp os) w :=
 hW.pullF ob hob hov hn hlt (fun _ _ _ h ho=>GZ0 (g:=g) (g':=g.pull ρ) rfl Gh.pull_pos h ho) (fun _ _ h=>qa1 h) hos
theorem W.pull {B:Ns} {w0:World} {g:Gh} {h:Heap} {w:World} (hW:W B w0 g h w) {ρ:List Nat} {os:List Obj} (hn:ρ.Nodup) (hlt:∀ r,r∈ρ→r<h.n) (hos:qc0 (fun r=>rnO (ql0 ρ) (h.get r)) ρ=some os):W B w0 (g.pull ρ) (hp os) w :=
 hW.pullG h.get hW.obj (fun _=>rfl) hn hlt hos
def fgt (keep:Bool) (o:Obj):Obj :=
 match o with
 | .row ver ty sz pub cap es=>bif keep then .row ver ty sz pub cap es else .row ver ty sz pub cap (List.takeN es pub)
 | .rowS ver ty sz pub l x=>bif keep||!(Nat.beq pub 0) then .rowS ver ty sz pub l x else .row ver ty sz 0 none []
 | o=>o
theorem JE1 (keep:Bool) (o:Obj):qH0 (fgt keep o)=qH0 o:=by
 cases o with
 | row=>cases keep <;> rfl
 | rowS ver ty sz pub l x =>
  unfold fgt
  simp only
  cases (keep||!(Nat.beq pub 0)) <;> rfl
 | _=>rfl
theorem fgt_ok {g:Gh} {w:World} {x:Nat×Nat×Nat} {o:Obj} (keep:Bool) (h:ObjOk g w x o):ObjOk g w x (fgt keep o):=by
 cases o with
 | row ver ty sz pub cap es =>
  cases keep with
  | true=>exact h
  | false =>
   change ObjOk g w x (.row ver ty sz pub cap (List.takeN es pub))
   obtain ⟨e1,C,fr,hrow⟩:=h
   rw [List.takeN_eq]
   refine ⟨e1,C,fr,hrow.at_,hrow.csize,hrow.pos,Nat.le_trans (by rw [List.length_take];omega) hrow.fits,?_,hrow.caps,fun i e he=>?_,fun i e j y he hy=>?_,hrow.shut,hrow.ice⟩
   ·have:=hrow.pubs;rw [List.length_take];omega
   ·rw [List.getElem?_take] at he
    split at he
    ·exact hrow.elems i e he
    ·cases he
   ·rw [List.getElem?_take] at he
    split at he
    ·exact hrow.cells i e j y he hy
    ·cases he
 | rowS ver ty sz pub l y =>
  unfold fgt
  simp only
  cases hk:(keep||!(Nat.beq pub 0)) with
  | true=>exact h
  | false =>
   simp only [Bool.or_eq_false_iff,Bool.not_eq_false',Nat.beq_eq] at hk
   obtain ⟨e1,C,fr,hrow⟩:=h
   refine ⟨e1,C,fr,hrow.at_,hrow.csize,hrow.pos,Nat.zero_le _,Nat.zero_le _,fun _ e=>(by cases e),fun i e he=>(by simp at he),fun i e j y he=>(by simp at he),?_,?_⟩
   ·have:=hrow.shut;rw [hk.2] at this;exact this
   ·have:=hrow.ice;rw [hk.2] at this;exact this
 | _=>exact h
def besides (w:World) (g:Gh):Ns:=fun b=>b<w.heap.size∧∀ j x,g.mu j=some x→x.1≠b
theorem W.besides {B:Ns} {w0:World} {g:Gh} {h:Heap} {w:World} (hW:W B w0 g h w):W (besides w g) w g h w :=
 ⟨.refl _ _,fun _ hb=>hb.1,hW.shut,hW.dom,hW.out,hW.ver,hW.obj,hW.inj,fun r x hx=>⟨fun q=>q.2 r x hx rfl,(hW.high r x hx).2⟩⟩
def bkN (ρ:List Nat) (n:Nat) (j:Nat):Option Nat :=
 match List.at ρ j with
 | some r=>some r
 | none=>some (Nat.add n (Nat.sub j (List.len ρ)))
def Yh0 (ρ:List Nat):List Obj→Heap→Heap :=
 List.rec (motive:=fun _=>List Obj→Heap→Heap) (fun _ h=>h) (fun r _ ih os h=>match os with
  | []=>h
  | o::os=>ih os (h.set r o)) ρ
def zt0 (ρ:List Nat) (os:List Obj) (h:Heap):Heap:=hpF (List.dropN os (List.len ρ)) (Yh0 ρ os h)
def qR0 (n:Nat):Nat→List Nat:=Nat.rec (motive:=fun _=>Nat→List Nat) (fun _=>[]) (fun _ ih k=>k::ih (Nat.succ k)) n
theorem Xj0 (n:Nat):∀ k j,j<n→(qR0 n k)[j]?=some (k+j):=by
 induction n with
 | zero=>intro k j h;omega
 | succ n IH =>
  intro k j h
  change (k::qR0 n (Nat.succ k))[j]?=_
  cases j with
  | zero=>rfl
  | succ j=>rw [List.getElem?_cons_succ,IH _ _ (by omega)];congr 1;omega
theorem Ge0 (n:Nat):∀ k,(qR0 n k).length=n:=by
 induction n with
 | zero=>intro k;rfl
 | succ n IH=>intro k;change (k::qR0 n (Nat.succ k)).length=_;rw [List.length_cons,IH]
theorem XR0 (ρ:List Nat):∀ (os:List Obj) (h:Heap),(Yh0 ρ os h).n=h.n:=by
 induction ρ with
 | nil=>intro os h;rfl
 | cons r ρ IH =>
  intro os h
  cases os with
  | nil=>rfl
  | cons o os=>exact (IH os (h.set r o)).trans (Heap.n_set _ _ _)
theorem qm1 (ρ:List Nat) (hn:ρ.Nodup):∀ (os:List Obj) (h:Heap),ρ.length≤os.length→(∀ (j:Nat) (r:Nat) (o:Obj),ρ[j]?=some r→os[j]?=some o→(Yh0 ρ os h).get r=o)∧∀ r,r∉ρ→(Yh0 ρ os h).get r=h.get r:=by
 induction ρ with
 | nil=>intro os h _;exact ⟨fun j r o e=>by simp at e,fun r _=>rfl⟩
 | cons p ρ IH =>
  intro os h hl
  rw [List.nodup_cons] at hn
  cases os with
  | nil=>simp at hl
  | cons o os =>
   obtain ⟨i1,i2⟩:=IH hn.2 os (h.set p o) (by simpa using hl)
   change (∀ (j:Nat) (r:Nat) (o':Obj),(p::ρ)[j]?=some r→(o::os)[j]?=some o'→(Yh0 ρ os (h.set p o)).get r=o')∧∀ r,r∉p::ρ→(Yh0 ρ os (h.set p o)).get r=h.get r
   refine ⟨fun j r o' e e'=>?_,fun r hr=>?_⟩
   ·cases j with
    | zero =>
     simp at e e';subst e;subst e'
     rw [i2 p hn.1,Heap.get_set,if_pos rfl]
    | succ j=>exact i1 j r o' (by simpa using e) (by simpa using e')
   ·simp only [List.mem_cons,not_or] at hr
    rw [i2 r hr.2,Heap.get_set,if_neg (fun e=>hr.1 e.symm)]
def Gh.merge (g:Gh) (ρ:List Nat) (n:Nat) (g1:Gh):Gh :=
 ⟨fun r=>match ql0 ρ r with | some j=>g1.mu j | none=>if r<n then g.mu r else g1.mu (r-n+ρ.length),
  fun r=>match ql0 ρ r with | some j=>g1.vr j | none=>if r<n then g.vr r else g1.vr (r-n+ρ.length),g1.S⟩
theorem W.mergeF {B:Ns} {w0:World} {g:Gh} {h:Heap} {w:World} (hW:W B w0 g h w) {ρ:List Nat} (hn:ρ.Nodup) (hlt:∀ r,r∈ρ→r<h.n) {g1:Gh} {h1:Heap} {w1:World} (hg1:Grown (AM.besides w (g.pull ρ)) (g.pull ρ) g1) (hW1:W (AM.besides w (g.pull ρ)) w g1 h1 w1) (hk:ρ.length≤h1.n)
 {rf:Obj→Option Obj} (hrok:∀ {g g':Gh},g'.S=g.S→(∀ j r,bkN ρ h.n j=some r→g'.mu r=g.mu j∧g'.vr r=g.vr j)→∀ {w:World} {x:Nat×Nat×Nat} {o o':Obj},ObjOk g w x o→rf o=some o'→ObjOk g' w x o') (hrver:∀ {o o':Obj},rf o=some o'→qH0 o'=qH0 o)
 {os:List Obj} (hos:qc0 (fun j=>rf (h1.get j)) (qR0 h1.n 0)=some os) :
 Grown B g (g.merge ρ h.n g1)∧W B w0 (g.merge ρ h.n g1) (zt0 ρ os h) w1∧∀ j r,bkN ρ h.n j=some r→(g.merge ρ h.n g1).mu r=g1.mu j∧(g.merge ρ h.n g1).vr r=g1.vr j:=by
 obtain ⟨m1,m2⟩:=zH0 hos
 rw [Ge0] at m1
 have hos':∀ j,j<h1.n→∃ o,os[j]?=some o∧rf (h1.get j)=some o:=fun j hj=>by
  obtain ⟨o,h1,h2⟩:=m2 j (0+j) (Xj0 _ 0 j hj)
  rw [Nat.zero_add] at h2
  exact ⟨o,h1,h2⟩
 let g':=g.merge ρ h.n g1
 have in_:∀ r j,ql0 ρ r=some j→g'.mu r=g1.mu j∧g'.vr r=g1.vr j:=fun r j e=>by simp [g',Gh.merge,e]
 have out_:∀ r,ql0 ρ r=none→r<h.n→g'.mu r=g.mu r∧g'.vr r=g.vr r:=fun r e q=>by simp [g',Gh.merge,e,q]
 have new_:∀ r,ql0 ρ r=none→h.n≤r→g'.mu r=g1.mu (r-h.n+ρ.length)∧g'.vr r=g1.vr (r-h.n+ρ.length):=fun r e q=>by
  have:¬ r<h.n:=by omega
  simp [g',Gh.merge,e,this]
 have hpn:∀ r,h.n≤r→ql0 ρ r=none:=fun r hr=>by
  cases hp:ql0 ρ r with
  | none=>rfl
  | some j=>have:=hlt r (List.mem_of_getElem? (zN0 hp));omega
 have bk:∀ j r,bkN ρ h.n j=some r→g'.mu r=g1.mu j∧g'.vr r=g1.vr j:=fun j r e=>by
  unfold bkN at e
  rw [List.at_eq] at e
  cases hj:ρ[j]? with
  | some q =>
   rw [hj] at e;cases e
   exact in_ _ j (GO1 hn hj)
  | none =>
   rw [hj] at e;cases e
   have hl:ρ.length≤j:=by
    rcases Nat.lt_or_ge j ρ.length with q | q
    ·obtain ⟨r,hr⟩:=qr0 ρ j q
     rw [hr] at hj;cases hj
    ·exact q
   change g'.mu (h.n+(j-List.len ρ))=_∧g'.vr (h.n+(j-List.len ρ))=_
   rw [List.len_eq]
   have:=new_ (h.n+(j-ρ.length)) (hpn _ (by omega)) (by omega)
   rw [show h.n+(j-ρ.length)-h.n+ρ.length=j by omega] at this
   exact this
 have hmono:∀ b o v,g.S b o=some v→g1.S b o=some v:=hg1.ext.S
 have hx:Ext g g':=by
  refine ⟨hmono,fun r v e=>?_,fun r x e e'=>?_⟩
  ·cases hp:ql0 ρ r with
   | some j =>
    obtain ⟨p1,p2⟩:=Gh.pull_at (g:=g) (zN0 hp)
    obtain ⟨v',a,b,c⟩:=hg1.ext.row j v (p2.trans e)
    rw [(in_ r j hp).1,(in_ r j hp).2,← p1]
    exact ⟨v',a,b,c⟩
   | none =>
    have hr:r<h.n:=by
     rcases Nat.lt_or_ge r h.n with q | q
     ·exact q
     ·rw [hW.ver',(hW.out r q).2] at e;cases e
    rw [(out_ r hp hr).1,(out_ r hp hr).2]
    exact ⟨v,e,Nat.le_refl _,fun _=>rfl⟩
  ·cases hp:ql0 ρ r with
   | some j =>
    obtain ⟨p1,p2⟩:=Gh.pull_at (g:=g) (zN0 hp)
    rw [(in_ r j hp).1,(in_ r j hp).2]
    exact hg1.ext.obj j x (p2.trans e) (p1.trans e')
   | none =>
    have hr:r<h.n:=hW.live e'
    rw [(out_ r hp hr).1,(out_ r hp hr).2]
    exact ⟨e,e'⟩
 have hB:∀ b,B b→AM.besides w (g.pull ρ) b:=fun b hb=>⟨hW.base b hb,fun j x e q=>by
  obtain ⟨r,_,hm⟩:=Gh.pull_mu e
  exact (hW.high r x hm).1 (q ▸ hb)⟩
 have hother:∀ r x,ql0 ρ r=none→g.mu r=some x→AM.besides w (g.pull ρ) x.1:=fun r x hp hm=>⟨(hW.high r x hm).2,fun j y e q=>by
  obtain ⟨r',hr',hm'⟩:=Gh.pull_mu e
  have:=hW.inj r' r y x hm' hm q
  subst this
  exact XD0 hp (List.mem_of_getElem? hr')⟩
 have hgetIn:∀ r j o,ql0 ρ r=some j→os[j]?=some o→(zt0 ρ os h).get r=o:=fun r j o hp ho=>by
  unfold zt0
  have hr:=hlt r (List.mem_of_getElem? (zN0 hp))
  rw [Xg0,XR0,if_neg (by omega)]
  exact (qm1 ρ hn os h (by omega)).1 j r o (zN0 hp) ho
 have hgetOut:∀ r,ql0 ρ r=none→r<h.n→(zt0 ρ os h).get r=h.get r:=fun r hp hr=>by
  unfold zt0
  rw [Xg0,XR0,if_neg (by omega)]
  exact (qm1 ρ hn os h (by omega)).2 r (XD0 hp)
 have hgetNew:∀ r,h.n≤r→(zt0 ρ os h).get r=os.getD (r-h.n+ρ.length) .dead:=fun r hr=>by
  unfold zt0
  rw [Xg0,XR0,List.dropN_eq,List.len_eq,List.length_drop]
  by_cases hl:r<h.n+(os.length-ρ.length)
  ·rw [if_pos ⟨hr,hl⟩,List.getD_eq_getElem?_getD,List.getElem?_drop,List.getD_eq_getElem?_getD,Nat.add_comm ρ.length]
  ·rw [if_neg (fun q=>hl q.2),(qm1 ρ hn os h (by omega)).2 r (XD0 (hpn r hr)),(hW.out r hr).2,List.getD_eq_getElem?_getD,List.getElem?_eq_none (by omega)];rfl
 have hbn:(zt0 ρ os h).n=h.n+(h1.n-ρ.length):=by
  unfold zt0
  rw [hpF_n,XR0,List.dropN_eq,List.len_eq,List.length_drop,m1]
 refine ⟨⟨hx,fun b o v hb e=>hg1.keep b o v (hB b hb) e⟩,?_,bk⟩
 refine ⟨hW.low.trans (hW1.low.mono hB),fun b hb=>Nat.lt_of_lt_of_le (hW.base b hb) hW1.low.size,hW1.shut,fun r hr=>?_,fun r hr=>?_,fun r=>?_,fun r x hx'=>?_,fun r q x y hx' hy e=>?_,fun r x hx'=>?_⟩
 ·rw [hbn] at hr
  cases hp:ql0 ρ r with
  | some j =>
   rw [(in_ r j hp).1]
   exact hW1.dom j (by have:=qd0 (zN0 hp);omega)
  | none =>
   rcases Nat.lt_or_ge r h.n with q | q
   ·rw [(out_ r hp q).1];exact hW.dom r q
   ·rw [(new_ r hp q).1];exact hW1.dom _ (by omega)
 ·rw [hbn] at hr
  have hrn:h.n≤r:=by omega
  rw [(new_ r (hpn r hrn) hrn).1,hgetNew r hrn]
  refine ⟨(hW1.out _ (by omega)).1,?_⟩
  rw [List.getD_eq_getElem?_getD,List.getElem?_eq_none (by omega)];rfl
 ·have hv:g'.vr r=qH0 ((zt0 ρ os h).get r):=by
   cases hp:ql0 ρ r with
   | some j =>
    obtain ⟨o,ho,hro⟩:=hos' j (by have:=qd0 (zN0 hp);omega)
    rw [(in_ r j hp).2,hgetIn r j o hp ho,hW1.ver',hrver hro]
   | none =>
    rcases Nat.lt_or_ge r h.n with q | q
    ·rw [(out_ r hp q).2,hgetOut r hp q,hW.ver']
    ·rw [(new_ r hp q).2,hgetNew r q,hW1.ver']
     rcases Nat.lt_or_ge (r-h.n+ρ.length) h1.n with s | s
     ·obtain ⟨o,ho,hro⟩:=hos' _ s
      rw [List.getD_eq_getElem?_getD,ho,Option.getD_some,hrver hro]
     ·rw [(hW1.out _ s).2,List.getD_eq_getElem?_getD,List.getElem?_eq_none (by omega)];rfl
  exact hv.trans (by cases (zt0 ρ os h).get r <;> rfl)
 ·cases hp:ql0 ρ r with
  | some j =>
   obtain ⟨o,ho,hro⟩:=hos' j (by have:=qd0 (zN0 hp);omega)
   rw [hgetIn r j o hp ho]
   rw [(in_ r j hp).1] at hx'
   exact hrok (g:=g1) (g':=g') rfl bk (hW1.obj j x hx') hro
  | none =>
   rcases Nat.lt_or_ge r h.n with q | q
   ·rw [hgetOut r hp q]
    rw [(out_ r hp q).1] at hx'
    have hb:=hother r x hp hx'
    exact (hW.obj r x hx').mono hx (hW1.low.block _ hb) (fun o v e=>hg1.keep _ o v hb e)
   ·rw [(new_ r hp q).1] at hx'
    have s:=hW1.live hx'
    obtain ⟨o,ho,hro⟩:=hos' _ s
    rw [hgetNew r q,List.getD_eq_getElem?_getD,ho,Option.getD_some]
    exact hrok (g:=g1) (g':=g') rfl bk (hW1.obj _ x hx') hro
 ·have cls:∀ r x,g'.mu r=some x→(∃ j,g1.mu j=some x∧bkN ρ h.n j=some r)∨(ql0 ρ r=none∧r<h.n∧g.mu r=some x):=fun r x e=>by
   cases hp:ql0 ρ r with
   | some j =>
    left
    rw [(in_ r j hp).1] at e
    exact ⟨j,e,by unfold bkN;rw [List.at_eq,zN0 hp]⟩
   | none =>
    rcases Nat.lt_or_ge r h.n with q | q
    ·right;rw [(out_ r hp q).1] at e;exact ⟨rfl,q,e⟩
    ·left
     rw [(new_ r hp q).1] at e
     refine ⟨_,e,?_⟩
     unfold bkN
     rw [List.at_eq,List.getElem?_eq_none (by omega),List.len_eq]
     change some (h.n+(r-h.n+ρ.length-ρ.length))=some r
     rw [show h.n+(r-h.n+ρ.length-ρ.length)=r by omega]
  rcases cls r x hx' with ⟨j,h1',h2'⟩ | ⟨p1,p2,p3⟩
  ·rcases cls q y hy with ⟨j',h3',h4'⟩ | ⟨q1,q2,q3⟩
   ·have:=hW1.inj j j' x y h1' h3' e
    subst this
    rw [h2'] at h4';cases h4';rfl
   ·have hb:=hother q y q1 q3
    rw [← e] at hb
    exact absurd hb (hW1.high j x h1').1
  ·rcases cls q y hy with ⟨j',h3',h4'⟩ | ⟨q1,q2,q3⟩
   ·have hb:=hother r x p1 p3
    rw [e] at hb
    exact absurd hb (hW1.high j' y h3').1
   ·exact hW.inj r q x y p3 q3 e
 ·cases hp:ql0 ρ r with
  | some j =>
   rw [(in_ r j hp).1] at hx'
   obtain ⟨h1',h2'⟩:=hW1.high j x hx'
   exact ⟨fun q=>h1' (hB _ q),h2'⟩
  | none =>
   rcases Nat.lt_or_ge r h.n with q | q
   ·rw [(out_ r hp q).1] at hx'
    exact ⟨(hW.high r x hx').1,Nat.lt_of_lt_of_le (hW.high r x hx').2 hW1.low.size⟩
   ·rw [(new_ r hp q).1] at hx'
    obtain ⟨h1',h2'⟩:=hW1.high _ x hx'
    exact ⟨fun q=>h1' (hB _ q),h2'⟩
theorem W.merge {B:Ns} {w0:World} {g:Gh} {h:Heap} {w:World} (hW:W B w0 g h w) {ρ:List Nat} (hn:ρ.Nodup) (hlt:∀ r,r∈ρ→r<h.n) {g1:Gh} {h1:Heap} {w1:World} (hg1:Grown (AM.besides w (g.pull ρ)) (g.pull ρ) g1) (hW1:W (AM.besides w (g.pull ρ)) w g1 h1 w1) (hk:ρ.length≤h1.n)
 {os:List Obj} (hos:qc0 (fun j=>rnO (bkN ρ h.n) (h1.get j)) (qR0 h1.n 0)=some os) :
 Grown B g (g.merge ρ h.n g1)∧W B w0 (g.merge ρ h.n g1) (zt0 ρ os h) w1∧∀ d v x y,R g1 v x→rnV (bkN ρ h.n) d x=some y→R (g.merge ρ h.n g1) v y :=
 let ⟨a,b,c⟩:=hW.mergeF hn hlt hg1 hW1 hk (rf:=rnO (bkN ρ h.n)) (fun hS bk _ _ _ _ h ho=>GZ0 hS bk h ho) qa1 hos
 ⟨a,b,fun d _ _ _ hR hy=>yE0 (g:=g1) (g':=g.merge ρ h.n g1) rfl c d hR hy⟩
variable {P:Program} {E:Env}
def qq0 {α:Type} (f:α→List Nat) (l:List α):List Nat:=List.rec [] (fun v _ ih=>List.app (f v) ih) l
def qp0 (d:Nat):V→List Nat :=
 Nat.rec (motive:=fun _=>V→List Nat) (fun _=>[]) (fun _ ih v=>match v with
  | .ptr r _ _=>[r]
  | .sl r _ _ _ _=>[r]
  | .map r=>[r]
  | .iter r=>[r]
  | .agg vs=>qq0 ih vs
  | .tup vs=>qq0 ih vs
  | .iface _ x=>ih x
  | .func _ a b=>List.app (qq0 ih a) (qq0 ih b)
  | _=>[]) d
def Zb0 (o:Obj):List Nat :=
 match o with
 | .row _ _ _ _ _ es=>qq0 (qp0 8) es
 | .rowS _ _ _ _ _ x=>qp0 8 x
 | .map es=>qq0 (fun p=>List.app (qp0 8 p.1) (qp0 8 p.2)) es
 | _=>[]
def qY0 (h:Heap) (fuel:Nat):List Nat→List Nat→List Nat :=
 Nat.rec (motive:=fun _=>List Nat→List Nat→List Nat) (fun _ seen=>seen) (fun _ ih todo seen=>match todo with
  | []=>seen
  | r::t=>bif qB0 r seen then ih t seen else ih (List.app t (Zb0 (h.get r))) (List.app seen [r])) fuel
def okR (n:Nat) (ρ:List Nat):Bool:=List.rec true (fun r l ih=>bif Nat.blt r n&&!(qB0 r l) then ih else false) ρ
theorem YU0 {n:Nat} (ρ:List Nat) (h:okR n ρ=true):ρ.Nodup∧∀ r,r∈ρ→r<n:=by
 induction ρ with
 | nil=>exact ⟨List.nodup_nil,fun r hr=>by cases hr⟩
 | cons r l IH =>
  change (bif Nat.blt r n&&!(qB0 r l) then okR n l else false)=true at h
  cases hb:(Nat.blt r n&&!(qB0 r l)) with
  | false=>rw [hb] at h;cases h
  | true =>
   rw [hb] at h
   simp only [Bool.and_eq_true,Bool.not_eq_true',Nat.blt_eq] at hb
   obtain ⟨i1,i2⟩:=IH h
   refine ⟨List.nodup_cons.2 ⟨fun q=>?_,i1⟩,fun q hq=>?_⟩
   ·have:=(YR0 r l).2 q
    rw [hb.2] at this;cases this
   ·rcases List.mem_cons.1 hq with rfl | hq
    ·exact hb.1
    ·exact i2 q hq
def Ql0 (h:Heap) (ρ:List Nat) (h1:Heap) (v:V) (k:V→Heap→Res):Res :=
 bif Nat.ble (List.len ρ) h1.n then
  (match qc0 (fun j=>rnO (bkN ρ h.n) (h1.get j)) (qR0 h1.n 0) with
  | none=>.none 0 none
  | some os=>match rnV (bkN ρ h.n) 8 v with
   | none=>.none 0 none
   | some v'=>k v' (zt0 ρ os h))
 else .none 0 none
def outR (h:Heap) (ρ:List Nat) (r:Res):Res :=
 match r with
 | .ret v h1=>Ql0 h ρ h1 v (fun v h2=>.ret v h2)
 | .panic v h1=>Ql0 h ρ h1 v (fun v h2=>.panic v h2)
 | .none a b=>.none a b
 | _=>.none 0 none
def YG0 (ih ih':Task→Res) (f:FuncId) (args:List V) (h:Heap):Res :=
 match qc0 (rnV (ql0 (qY0 h 60 (qq0 (qp0 8) args) [])) 8) args with
 | none=>ih' (.call f args h)
 | some as=>match qc0 (fun r=>rnO (ql0 (qY0 h 60 (qq0 (qp0 8) args) [])) (h.get r)) (qY0 h 60 (qq0 (qp0 8) args) []) with
  | none=>ih' (.call f args h)
  | some os=>bif okR h.n (qY0 h 60 (qq0 (qp0 8) args) []) then outR h (qY0 h 60 (qq0 (qp0 8) args) []) (ih (.call f as (hp os))) else ih' (.call f args h)
theorem mapO_R {f:V→Option V} {g g':Gh} (hf:∀ v x y,R g v x→f x=some y→R g' v y) {us:Array Value} {xs ys:List V} (h:Rs' g us xs) (hm:qc0 f xs=some ys):Rs' g' us ys:=by
 obtain ⟨p1,p2⟩:=zH0 hm
 refine ⟨by rw [h.1,p1],fun i v y a c=>?_⟩
 obtain ⟨x,hx⟩:=qr0 xs i (by rw [← p1];exact qd0 c)
 obtain ⟨y',hy',hf'⟩:=p2 i x hx
 rw [c] at hy';cases hy'
 exact hf v x _ (h.2 i v x a hx) hf'
theorem Xa1 {ih ih':Task→Res} (hI:Snd P E ih) (hI':Snd P E ih') {B:Ns} {w0:World} {g:Gh} {h:Heap} {w:World} (cs:List Frame) (f:FuncId) (args:List V) (us:Array Value) (hW:W B w0 g h w) (hG:GlobOk E.glob g.S) (hs:Rs' g us args):CallOk P B w0 g cs f us w (YG0 ih ih' f args h):=by
 unfold YG0
 generalize qY0 h 60 (qq0 (qp0 8) args) []=ρ
 split
 ·exact hI'.call cs f args us hW hG hs
 ·rename_i as has
  split
  ·exact hI'.call cs f args us hW hG hs
  ·rename_i os hos
   cases hk:okR h.n ρ with
   | false=>exact hI'.call cs f args us hW hG hs
   | true =>
    obtain ⟨hn,hlt⟩:=YU0 ρ hk
    have hf:∀ r j,ql0 ρ r=some j→(g.pull ρ).mu j=g.mu r∧(g.pull ρ).vr j=g.vr r:=fun r j e=>Gh.pull_at (zN0 e)
    have hWs:=(hW.pull hn hlt hos).besides
    have hss:Rs' (g.pull ρ) us as:=mapO_R (fun v x y=>yE0 (g:=g) (g':=g.pull ρ) rfl hf 8) hs has
    have hc:=hI.call cs f as us hWs hG hss
    change CallOk P B w0 g cs f us w (outR h ρ (ih (.call f as (hp os))))
    generalize hr:ih (.call f as (hp os))=r at hc
    cases r with
    | code _ _ _=>trivial
    | dret _ _=>trivial
    | none _ _=>trivial
    | ret v h1 =>
     obtain ⟨g1,w1,u,hg1,hW1,hR,hret⟩:=hc
     change CallOk P B w0 g cs f us w (Ql0 h ρ h1 v (fun v h2=>.ret v h2))
     unfold Ql0
     cases hb:Nat.ble (List.len ρ) h1.n with
     | false=>trivial
     | true =>
      rw [Nat.ble_eq,List.len_eq] at hb
      simp only [cond_true]
      split
      ·trivial
      ·rename_i os' hos'
       obtain ⟨q1,q2,q3⟩:=hW.merge hn hlt hg1 hW1 hb hos'
       split
       ·trivial
       ·rename_i v' hv'
        exact ⟨_,w1,u,q1,q2,q3 8 u v v' hR hv',hret⟩
    | panic v h1 =>
     obtain ⟨g1,w1,u,hg1,hW1,hR,hret⟩:=hc
     change CallOk P B w0 g cs f us w (Ql0 h ρ h1 v (fun v h2=>.panic v h2))
     unfold Ql0
     cases hb:Nat.ble (List.len ρ) h1.n with
     | false=>trivial
     | true =>
      rw [Nat.ble_eq,List.len_eq] at hb
      simp only [cond_true]
      split
      ·trivial
      ·rename_i os' hos'
       obtain ⟨q1,q2,q3⟩:=hW.merge hn hlt hg1 hW1 hb hos'
       split
       ·trivial
       ·rename_i v' hv'
        exact ⟨_,w1,u,q1,q2,q3 8 u v v' hR hv',hret⟩
def yO0 (N:Nat) (ρ:List Nat):Bool:=qV0 (fun j=>match List.at ρ j with
 | some r=>Nat.beq r j
 | none=>false) (qR0 N 0)
theorem Gc0 {N:Nat} {ρ:List Nat} (h:yO0 N ρ=true):∀ j,j<N→ρ[j]?=some j:=fun j hj=>by
 have:=(yK0 _ _).1 h j (List.mem_of_getElem? (by have:=Xj0 N 0 j hj;rwa [Nat.zero_add] at this))
 rw [List.at_eq] at this
 cases hr:ρ[j]? with
 | none=>rw [hr] at this;cases this
 | some r=>rw [hr] at this;rw [Nat.beq_eq] at this;rw [this]
theorem Grown.pull {B:Ns} {g g':Gh} {N:Nat} {ρ:List Nat} (hD:Dom N g) (hg:Grown B g g') (hh:∀ j,j<N→ρ[j]?=some j):Grown B g (g'.pull ρ):=by
 have hdom:∀ r,(g.mu r≠none∨g.vr r≠none)→r<N:=by
  intro r hr
  rcases Nat.lt_or_ge r N with q | q
  ·exact q
  ·obtain ⟨e1,e2⟩:=hD r q
   rcases hr with hr | hr
   ·exact absurd e1 hr
   ·exact absurd e2 hr
 refine ⟨⟨hg.ext.S,fun r v e=>?_,fun r x e e'=>?_⟩,hg.keep⟩
 ·obtain ⟨p1,p2⟩:=Gh.pull_at (g:=g') (hh r (hdom r (.inr (by rw [e];simp))))
  rw [p1,p2];exact hg.ext.row r v e
 ·obtain ⟨p1,p2⟩:=Gh.pull_at (g:=g') (hh r (hdom r (.inl (by rw [e'];simp))))
  rw [p1,p2];exact hg.ext.obj r x e e'
def zg0 (N:Nat) (h1:Heap) (vs:List V):List Nat:=qY0 h1 80 (List.app (qR0 N 0) (qq0 (qp0 8) vs)) []
def gcV (N:Nat) (h1:Heap) (v:V) (k:V→Heap→Res):Res :=
 match rnV (ql0 (zg0 N h1 [v])) 8 v with
 | none=>k v h1
 | some v'=>match qc0 (fun r=>rnO (ql0 (zg0 N h1 [v])) (h1.get r)) (zg0 N h1 [v]) with
  | none=>k v h1
  | some os=>bif okR h1.n (zg0 N h1 [v])&&yO0 N (zg0 N h1 [v]) then k v' (hp os) else k v h1
def gcR (N:Nat) (r:Res):Res :=
 match r with
 | .ret v h1=>gcV N h1 v (fun v h2=>.ret v h2)
 | .panic v h1=>gcV N h1 v (fun v h2=>.panic v h2)
 | r=>r
theorem yv1 {B:Ns} {w0:World} {g g':Gh} {N:Nat} {h1:Heap} {w':World} {u:Value} {v:V} {k:V→Heap→Res} {Q:Res→Prop} (hD:Dom N g) (hg:Grown B g g') (hW:W B w0 g' h1 w') (hR:R g' u v) (hk:∀ g2 v2 h2,Grown B g g2→W B w0 g2 h2 w'→R g2 u v2→Q (k v2 h2)):Q (gcV N h1 v k):=by
 unfold gcV
 generalize zg0 N h1 [v]=ρ
 split
 ·exact hk g' v h1 hg hW hR
 ·rename_i v' hv'
  split
  ·exact hk g' v h1 hg hW hR
  ·rename_i os hos
   cases hb:(okR h1.n ρ&&yO0 N ρ) with
   | false=>exact hk g' v h1 hg hW hR
   | true =>
    simp only [Bool.and_eq_true] at hb
    obtain ⟨hn,hlt⟩:=YU0 ρ hb.1
    have hf:∀ r j,ql0 ρ r=some j→(g'.pull ρ).mu j=g'.mu r∧(g'.pull ρ).vr j=g'.vr r:=fun r j e=>Gh.pull_at (zN0 e)
    exact hk (g'.pull ρ) v' (hp os) (hg.pull hD (Gc0 hb.2)) (hW.pull hn hlt hos) (yE0 (g:=g') (g':=g'.pull ρ) rfl hf 8 hR hv')
theorem gcR_ok {B:Ns} {w0:World} {g:Gh} {N:Nat} {w:World} {cs:List Frame} {f:FuncId} {us:Array Value} {r:Res} (hD:Dom N g) (h:CallOk P B w0 g cs f us w r):CallOk P B w0 g cs f us w (gcR N r):=by
 cases r with
 | ret v h1 =>
  obtain ⟨g',w',u,hg,hW,hR,hret⟩:=h
  exact yv1 hD hg hW hR fun g2 v2 h2 a b c=>⟨g2,w',u,a,b,c,hret⟩
 | panic v h1 =>
  obtain ⟨g',w',u,hg,hW,hR,hret⟩:=h
  exact yv1 (k:=fun v h2=>.panic v h2) hD hg hW hR fun g2 v2 h2 a b c=>⟨g2,w',u,a,b,c,hret⟩
 | _=>exact h
structure Cf where
 inl:FuncId→Bool
 unr:FuncId→Code→Nat→Bool
 drow:TypeId→Bool
 live:FuncId→Code→Option (List Nat×List Nat×List Nat)
 pb:FuncId→Bool
 norm:FuncId→V→V
 ok:∀ f x,Wk x (norm f x)
 ps:FuncId→TypeId→Option Bool:=fun _ _=>none
 nz:FuncId→TypeId→V→V:=fun _ _ v=>v
 nzok:∀ f t v,Wk v (nz f t v):=by intros;exact Wk.refl _
 cb:TypeId→Bool:=fun _=>false
 srow:TypeId→Bool:=fun _=>false
 shf:FuncId→Bool:=fun _=>false
 apf:FuncId→Bool:=fun _=>false
 nxt:FuncId→Bool:=fun _=>false
 spl:FuncId→Bool:=fun _=>false
 sn:TypeId→Bool:=fun _=>false
 lf:FuncId→Bool:=fun _=>false
 na:FuncId→List V→List V:=fun _ a=>a
 naok:∀ f a,Wks a (na f a):=by intros;exact ⟨rfl,fun i x y p q=>by rw [p] at q;cases q;exact .refl _⟩
def Xv0 (C:Cf) (f:FuncId) (r:Res):Res :=
 match r with
 | .ret v h=>.ret (C.norm f v) h
 | r=>r
theorem KZ1 {C:Cf} {B:Ns} {w0:World} {g:Gh} {w:World} {cs:List Frame} {f:FuncId} {us:Array Value} {r:Res} (h:CallOk P B w0 g cs f us w r):CallOk P B w0 g cs f us w (Xv0 C f r):=by
 cases r with
 | ret v h1 =>
  obtain ⟨g',w',u,hg,hW,hR,hret⟩:=h
  exact ⟨g',w',u,hg,hW,C.ok f v g' u hR,hret⟩
 | _=>exact h
theorem qd2 {B:Ns} {w0:World} {g:Gh} {w:World} {cs:List Frame} {f:FuncId} {us:Array Value} {r:Res} (h:CallOk P B w0 g cs f us w r):CallOk P B w0 g cs f us w (Qm0 f r):=by
 unfold Qm0
 split
 ·rename_i v h1
  obtain ⟨g',w',u,hg,hW',hR,hret⟩:=h
  split
  ·rename_i v' h2 hp
   obtain ⟨S,k,q,_⟩:=ju0 [] depth hW' hR hp
   exact ⟨_,w',u,hg.trans k.grown,k.world,.gnd q,hret⟩
  ·trivial
 ·exact h
def qJ0 {α:Type}:Option α→Bool
 | none=>true
 | some _=>false
def qW0 {β:Type} (h:Heap) (k:Heap→β):β:=Heap.rec (motive:=fun _=>(Heap→β)→β) (fun t n k=>k ⟨t,n⟩) h k
theorem yk0 {β:Type} (h:Heap) (k:Heap→β):qW0 h k=k h:=by cases h;rfl
def Jn0 (C:Cf) (h:Heap) (r:Nat):Heap:=match h.get r with
 | .row ver ty sz pub cap es=>bif C.sn ty&&qJ0 cap then (match Qc0 es with
  | some p=>h.set r (.rowS ver ty sz pub p.1 p.2)
  | none=>h) else h
 | _=>h
theorem zr2 {C:Cf} {B:Ns} {w0:World} {g:Gh} {h:Heap} {w:World} (hW:W B w0 g h w) (r:Nat):W B w0 g (Jn0 C h r) w:=by
 unfold Jn0
 split
 ·rename_i ver ty sz pub cap es hg
  cases hc:(C.sn ty&&qJ0 cap) with
  | false=>exact hW
  | true =>
   simp only [cond_true]
   split
   ·rename_i p hp
    have he:=yV1 hp
    refine hW.setO (fun a ha=>?_) (hW.lt (by rw [hg];simp)) (by rw [hg];rfl)
    have ho:=hW.obj r a ha
    rw [hg] at ho
    cases cap with
    | some c=>simp [qJ0] at hc
    | none=>rw [he] at ho;exact ho
   ·exact hW
 ·exact hW
def Qn0 (C:Cf) (f:FuncId) (h:Heap) (r:Nat):Heap:=match h.get r with
 | .rowS _ _ sz pb l x=>(match pub [] depth h x with
  | some p=>(match p.2.get r with
   | .rowS ver ty sz' pb' _ _=>bif Nat.beq sz sz'&&Nat.beq pb pb'&&(C.nz f ty p.1).flat then p.2.set r (.rowS ver ty sz pb l (C.nz f ty p.1)) else h
   | _=>h)
  | none=>h)
 | _=>h
theorem Heap.get_set_self (h:Heap) (r:Nat) (o:Obj):(h.set r o).get r=o:=by rw [Heap.get_set,if_pos rfl]
theorem Gi1 {v:Value} (h:v.oneCell'=true):v.cells=#[v]:=by
 cases v <;> first | rfl | (simp [Value.oneCell'] at h)
theorem ye2 {g:Gh} {x:V} (hf:x.flat=true) {D:Array Value} (hs:Rs' g D x.cells) (h1:∀ (i:Nat) u,D[i]?=some u→u.oneCell'=true):∃ u,R g u x∧u.cells=D:=by
 have one:x.cells=[x]→∃ u,R g u x∧u.cells=D:=fun e=>by
  rw [e] at hs
  obtain ⟨u,hu,hR⟩:=hs.at (i:=0) (x:=x) rfl
  refine ⟨u,hR,?_⟩
  rw [Gi1 (h1 0 u hu)]
  have hz:D.size=1:=hs.1
  apply Array.ext
  ·simp [hz]
  ·intro i a b
   have:i=0:=by simp at a;exact a
   subst this
   have:=Array.getElem?_eq_getElem (xs:=D) b
   rw [hu] at this
   simpa using Option.some.inj this
 cases x with
 | agg cs=>exact ⟨.agg D,.agg hs.1 h1 hs.2,rfl⟩
 | tup=>cases hf
 | fsl=>cases hf
 | _=>exact one rfl
theorem Yq0 (l:List V) (x:V):(l++[x]).length=l.length+1:=by simp
theorem Yp0 (l:List V) (x:V):(l++[x])[l.length]?=some x:=by simp
theorem qG1 {l:List V} {x:V} {i:Nat} {e:V} (h:(l++[x])[i]?=some e):(l[i]?=some e∧i<l.length)∨(i=l.length∧e=x):=by
 rcases Nat.lt_or_ge i l.length with q | q
 ·rw [List.getElem?_append_left q] at h;exact .inl ⟨h,q⟩
 ·rw [List.getElem?_append_right q] at h
  have:i-l.length=0:=by
   have:=qd0 h
   simpa using this
  rw [this] at h
  exact .inr ⟨by omega,(Option.some.inj h).symm⟩
theorem jX1 {C:Cf} {B:Ns} {w0:World} {g:Gh} {h:Heap} {w:World} (hW:W B w0 g h w) (f:FuncId) (r:Nat):∃ g',Grown B g g'∧W B w0 g' (Qn0 C f h r) w:=by
 have h0:∃ g',Grown B g g'∧W B w0 g' h w:=⟨g,.refl _ _,hW⟩
 unfold Qn0
 split
 ·rename_i ver0 ty0 sz pb l x hg
  split
  ·rename_i p hp
   obtain ⟨x',h'⟩:=p
   split
   ·rename_i ver ty sz' pb' l2 x2 hg2
    cases hc:(Nat.beq sz sz'&&Nat.beq pb pb'&&(C.nz f ty x').flat) with
    | false=>exact h0
    | true =>
     simp only [Bool.and_eq_true,Nat.beq_eq] at hc
     obtain ⟨⟨rfl,rfl⟩,hfl⟩:=hc
     obtain ⟨a,ha⟩:=hW.dom r (hW.lt (by rw [hg];simp))
     have hob:=hW.obj r a ha
     rw [hg] at hob
     obtain ⟨e1,C0,fr,hrow⟩:=hob
     obtain ⟨xl,xf⟩:=hrow.elems l.length x (Yp0 l x)
     have hD:∀ j,j<sz→∃ y v,x.cells[j]?=some y∧C0[l.length*sz+j]?=some v∧v.oneCell'=true∧R g v y:=fun j hj=>by
      obtain ⟨y,hy⟩:=qr0 x.cells j (by rw [xl];exact hj)
      obtain ⟨v,a1,a2,a3⟩:=hrow.cells l.length x j y (Yp0 l x) hy
      exact ⟨y,v,hy,a1,a2,a3⟩
     have hsz:l.length*sz+sz≤C0.size:=by
      rw [hrow.csize]
      have h1:=hrow.fits
      rw [Yq0] at h1
      have:(l.length+1)*sz≤a.2.1*sz:=Nat.mul_le_mul_right _ h1
      rw [Nat.add_mul,Nat.one_mul] at this
      exact this
     have hDs:(C0.extract (l.length*sz) (l.length*sz+sz)).size=sz:=by simp;omega
     have hDg:∀ j v,(C0.extract (l.length*sz) (l.length*sz+sz))[j]?=some v→j<sz∧C0[l.length*sz+j]?=some v:=fun j v q=>by
      have hj:=yS0 q
      rw [hDs] at hj
      refine ⟨hj,?_⟩
      rw [Array.getElem?_extract,if_pos (by omega)] at q
      exact q
     obtain ⟨u,hR,hu⟩:=ye2 (g:=g) xf (D:=C0.extract (l.length*sz) (l.length*sz+sz)) ⟨by rw [hDs,xl],fun j v y q c=>by
      obtain ⟨hj,q'⟩:=hDg j v q
      obtain ⟨y',v',b1,b2,_,b4⟩:=hD j hj
      rw [c] at b1;cases b1
      rw [q'] at b2;cases b2
      exact b4⟩ (fun j v q=>by
      obtain ⟨hj,q'⟩:=hDg j v q
      obtain ⟨y',v',_,b2,b3,_⟩:=hD j hj
      rw [q'] at b2;cases b2
      exact b3)
     obtain ⟨S,hP,hGR,_⟩:=ju0 [] depth hW hR hp
     have hR':R (g.say S) u (C.nz f ty x'):=C.nzok _ _ _ _ _ (.gnd hGR)
     obtain ⟨c1,c2⟩:=hR'.cells hfl
     rw [hu] at c1 c2
     have hob2:=hP.world.obj r a ha
     rw [hg2] at hob2
     obtain ⟨_,C1,fr1,hrow1⟩:=hob2
     have he:some (Go.Obj.cells C0 ty0 fr)=some (Go.Obj.cells C1 ty fr1):=hrow.at_.symm.trans hrow1.at_
     cases he
     refine ⟨g.say S,hP.grown,hP.world.setO (fun b hb=>?_) (hP.world.lt (by rw [hg2];simp)) (by rw [hg2];rfl)⟩
     have:b=a:=by
      have hb':g.mu r=some b:=hb
      rw [ha] at hb';exact (Option.some.inj hb').symm
     subst this
     refine ⟨e1,C0,fr,hrow.at_,hrow.csize,hrow.pos,by have:=hrow.fits;rw [Yq0] at this ⊢;exact this,by have:=hrow.pubs;rw [Yq0] at this ⊢;exact this,hrow.caps,fun i e he=>?_,fun i e j y he hy=>?_,hrow1.shut,hrow.ice⟩
     ·rcases qG1 he with ⟨q,hi⟩ | ⟨rfl,rfl⟩
      ·refine hrow.elems i e ?_
       rw [List.getElem?_append_left hi];exact q
      ·exact ⟨by rw [← c1.1,hDs],hfl⟩
     ·rcases qG1 he with ⟨q,hi⟩ | ⟨rfl,rfl⟩
      ·obtain ⟨v,a1,a2,a3⟩:=hrow.cells i e j y (by rw [List.getElem?_append_left hi];exact q) hy
       exact ⟨v,a1,a2,a3.mono hP.grown.ext⟩
      ·obtain ⟨v,hv,hRv⟩:=c1.at hy
       exact ⟨v,(hDg j v hv).2,c2 j v hv,hRv⟩
   ·exact h0
  ·exact h0
 ·exact h0
def rowP:Option V→Option Nat
 | some (.ptr r _ _)=>some r
 | some (.sl r _ _ _ _)=>some r
 | _=>none
def ym0 (o:Oper):Bool :=
 match o.op with
 | .call c=>(match c.callee with
  | .builtin b=>(match b with
   | .append=>true
   | _=>false)
  | _=>false)
 | _=>false
def Jz0 (G:Nat→Option V) (tm:T V) (o:Oper):Option Nat :=
 match o.op with
 | .call c=>(match c.args.toList with
  | a::_=>rowP (ev G tm a)
  | []=>none)
 | _=>none
def xpA (C:Cf) (G:Nat→Option V) (fr:Fr) (h:Heap) (o:Oper):Heap :=
 bif ym0 o then (match Jz0 G fr.tm o with
  | some r=>xpH (Qn0 C fr.fn h r) r
  | none=>h) else h
def zb0 (C:Cf) (o:Oper) (fr':Fr) (h':Heap):Heap :=
 bif ym0 o then (match o.dst with
  | some d=>(match rowP (some (fr'.at' d)) with
   | some q=>Jn0 C h' q
   | none=>h')
  | none=>h') else h'
theorem xpA_ok {C:Cf} {B:Ns} {w0:World} {g:Gh} {h:Heap} {w:World} (hW:W B w0 g h w) (G:Nat→Option V) (fr:Fr) (o:Oper):∃ g',Grown B g g'∧W B w0 g' (xpA C G fr h o) w:=by
 have h0:∃ g',Grown B g g'∧W B w0 g' h w:=⟨g,.refl _ _,hW⟩
 unfold xpA
 cases ym0 o with
 | true =>
  simp only [cond_true]
  split
  ·rename_i r _
   obtain ⟨g',hg,hW'⟩:=jX1 (C:=C) hW fr.fn r
   exact ⟨g',hg,Kh0 hW' r⟩
  ·exact h0
 | false=>exact h0
theorem Qx1 {C:Cf} {B:Ns} {w0:World} {g:Gh} {h:Heap} {w:World} (hW:W B w0 g h w) (o:Oper) (fr':Fr):W B w0 g (zb0 C o fr' h) w:=by
 unfold zb0
 cases ym0 o with
 | true =>
  simp only [cond_true]
  split
  ·split
   ·exact zr2 hW _
   ·exact hW
  ·exact hW
 | false=>exact hW
def setH (C:Cf) (f:FuncId) (l:List Nat):Heap→Heap:=List.rec (motive:=fun _=>Heap→Heap) (fun h=>h) (fun i _ ih h=>ih (xpH (Qn0 C f h i) i)) l
theorem qY2 {C:Cf} {B:Ns} {w0:World} {w:World} (f:FuncId) (l:List Nat):∀ {g:Gh} {h:Heap},W B w0 g h w→∃ g',Grown B g g'∧W B w0 g' (setH C f l h) w:=by
 induction l with
 | nil=>intro g h hW;exact ⟨g,.refl _ _,hW⟩
 | cons i l IH =>
  intro g h hW
  obtain ⟨g1,hg1,hW1⟩:=jX1 (C:=C) hW f i
  obtain ⟨g2,hg2,hW2⟩:=IH (Kh0 hW1 i)
  exact ⟨g2,hg1.trans hg2,hW2⟩
def setR (C:Cf) (f:FuncId) (r:Res):Res :=
 match r with
 | .ret v h=>.ret v (setH C f (qR0 h.n 0) h)
 | r=>r
theorem zc2 {C:Cf} {B:Ns} {w0:World} {g:Gh} {w:World} {cs:List Frame} {f:FuncId} {us:Array Value} {r:Res} (h:CallOk P B w0 g cs f us w r):CallOk P B w0 g cs f us w (setR C f r):=by
 cases r with
 | ret v h1 =>
  obtain ⟨g',w',u,hg,hW',hR,hret⟩:=h
  obtain ⟨g2,hg2,hW2⟩:=qY2 (C:=C) f (qR0 h1.n 0) hW'
  exact ⟨g2,w',u,hg.trans hg2,hW2,hR.mono hg2.ext,hret⟩
 | _=>exact h
def finC (C:Cf) (f:FuncId) (N:Nat) (r:Res):Res:=gcR N (Xv0 C f (Bool.rec r (Qm0 f (setR C f r)) (C.pb f)))
theorem JN1 {C:Cf} {B:Ns} {w0:World} {g:Gh} {N:Nat} {w:World} {cs:List Frame} {f:FuncId} {us:Array Value} {r:Res} (hD:Dom N g) (h:CallOk P B w0 g cs f us w r):CallOk P B w0 g cs f us w (finC C f N r):=by
 unfold finC
 refine gcR_ok hD (KZ1 ?_)
 cases C.pb f with
 | false=>exact h
 | true=>exact qd2 (zc2 h)
def qv0 (s:Fr) (ks:List Nat):List (Nat×V):=List.rec [] (fun k _ ih=>bif yx0 (s.at' k) then ih else (k,s.at' k)::ih) ks
def rnY (f:Nat→Option Nat) (v:V):Option V :=
 match v with
 | .func fn xs ys=>(match fn with
  | .yield l=>bif qb0 xs&&qb0 ys then (match f l with
   | some j=>some (.func (.yield j) [] [])
   | none=>none) else none
  | fn=>rnV f 8 (.func fn xs ys))
 | v=>rnV f 8 v
theorem qb1 {f:Nat→Option Nat} {g g':Gh} (hS:g'.S=g.S) (hf:∀ r j,f r=some j→g'.mu j=g.mu r∧g'.vr j=g.vr r) {v:Value} {x y:V} (hR:R g v x) (hy:rnY f x=some y):R g' v y:=by
 unfold rnY at hy
 split at hy
 ·split at hy
  ·rename_i xs ys l
   obtain ⟨b,k,rfl,rfl,rfl,h1,h2⟩:=hR.yield_inv
   change (match f l with | some j=>some (V.func (.yield j) [] []) | none=>none)=some y at hy
   cases hj:f l with
   | none=>rw [hj] at hy;cases hy
   | some j =>
    rw [hj] at hy;cases hy
    obtain ⟨q1,q2⟩:=hf l j hj
    exact .yield (q2.trans h1) (q1.trans h2)
  ·exact yE0 hS hf 8 hR hy
 ·exact yE0 hS hf 8 hR hy
def rnL (f:Nat→Option Nat) (p:Nat×V):Option (Nat×V) :=
 match rnY f p.2 with
 | some y=>some (p.1,y)
 | none=>none
def qN0 (l:List (Nat×V)):List V:=List.rec [] (fun p _ ih=>p.2::ih) l
def gslO (v:V):V :=
 match v with
 | .gsl s es _=>.osl s es
 | v=>v
theorem Xq1 (v:V):Wk v (gslO v):=by
 cases v with
 | gsl s es c=>exact .gsl
 | _=>exact .refl _
def mapV (f:V→V) (l:List V):List V:=List.rec [] (fun x _ ih=>f x::ih) l
theorem jl1 (f:V→V) (l:List V):mapV f l=l.map f:=by
 induction l with
 | nil=>rfl
 | cons x l IH=>change f x::mapV f l=_;rw [IH];rfl
def gslE (e:V):V :=
 match e with
 | .agg cs=>.agg (mapV gslO cs)
 | e=>gslO e
def zY0 (o:Obj):Obj :=
 match o with
 | .row ver ty sz pub cap es=>(match cap with
  | some c=>.row ver ty sz pub (some c) (mapV gslE es)
  | none=>.row ver ty sz pub none es)
 | o=>o
theorem yB1 (e:V) (hf:e.flat=true):(gslE e).flat=true∧(gslE e).cells=e.cells.map gslO:=by
 cases e with
 | agg cs=>exact ⟨rfl,jl1 _ _⟩
 | tup=>cases hf
 | fsl=>cases hf
 | _=>exact ⟨rfl,rfl⟩
theorem KZ0 (o:Obj):qH0 (zY0 o)=qH0 o:=by
 cases o with
 | row ver ty sz pub cap es=>cases cap <;> rfl
 | _=>rfl
theorem yC1 {g:Gh} {w:World} {x:Nat×Nat×Nat} {o:Obj} (h:ObjOk g w x o):ObjOk g w x (zY0 o):=by
 cases o with
 | row ver ty sz pub cap es =>
  cases cap with
  | none=>exact h
  | some c =>
   obtain ⟨e1,C,fr,hrow⟩:=h
   change ObjOk g w x (.row ver ty sz pub (some c) (mapV gslE es))
   rw [jl1]
   have back:∀ (i:Nat) e',(es.map gslE)[i]?=some e'→∃ e,es[i]?=some e∧e'=gslE e:=fun i e' he'=>by
    rw [List.getElem?_map] at he'
    cases he:es[i]? with
    | none=>rw [he] at he';cases he'
    | some e=>rw [he] at he';cases he';exact ⟨e,rfl,rfl⟩
   refine ⟨e1,C,fr,hrow.at_,hrow.csize,hrow.pos,by rw [List.length_map];exact hrow.fits,by rw [List.length_map];exact hrow.pubs,hrow.caps,fun i e' he'=>?_,fun i e' j y' he' hy'=>?_,hrow.shut,hrow.ice⟩
   ·obtain ⟨e,he,rfl⟩:=back i e' he'
    obtain ⟨b1,b2⟩:=hrow.elems i e he
    obtain ⟨c1,c2⟩:=yB1 e b2
    exact ⟨by rw [c2,List.length_map];exact b1,c1⟩
   ·obtain ⟨e,he,rfl⟩:=back i e' he'
    obtain ⟨b1,b2⟩:=hrow.elems i e he
    obtain ⟨c1,c2⟩:=yB1 e b2
    rw [c2,List.getElem?_map] at hy'
    cases hy:e.cells[j]? with
    | none=>rw [hy] at hy';cases hy'
    | some y =>
     rw [hy] at hy';cases hy'
     obtain ⟨v,a1,a2,a3⟩:=hrow.cells i e j y he hy
     exact ⟨v,a1,a2,Xq1 y g v a3⟩
 | _=>exact h
def zl0 (h:Heap):Heap:=List.rec h (fun i _ ih=>ih.set i (zY0 (h.get i))) (qR0 h.n 0)
theorem Xc0 {B:Ns} {w0:World} {g:Gh} {h:Heap} {w:World} (hW:W B w0 g h w):W B w0 g (zl0 h) w∧(zl0 h).n=h.n:=by
 have key:∀ (l:List Nat),(∀ i,i∈l→i<h.n)→W B w0 g (List.rec (motive:=fun _=>Heap) h (fun i _ ih=>ih.set i (zY0 (h.get i))) l) w∧(List.rec (motive:=fun _=>Heap) h (fun i _ ih=>ih.set i (zY0 (h.get i))) l).n=h.n∧∀ r,qH0 ((List.rec (motive:=fun _=>Heap) h (fun i _ ih=>ih.set i (zY0 (h.get i))) l:Heap).get r)=qH0 (h.get r):=by
  intro l
  induction l with
  | nil=>intro _;exact ⟨hW,rfl,fun _=>rfl⟩
  | cons i l IH =>
   intro hl
   obtain ⟨q1,q2,q3⟩:=IH fun j hj=>hl j (by simp [hj])
   have hi:=hl i (by simp)
   refine ⟨q1.setO (fun x hx=>yC1 (hW.obj i x hx)) (by rw [q2];exact hi) (by rw [KZ0,q3]),q2,fun r=>?_⟩
   change qH0 (((List.rec (motive:=fun _=>Heap) h (fun i _ ih=>ih.set i (zY0 (h.get i))) l:Heap).set i (zY0 (h.get i))).get r)=_
   rw [Heap.get_set]
   split
   ·rename_i e;subst e;exact KZ0 _
   ·exact q3 r
 obtain ⟨q1,q2,_⟩:=key (qR0 h.n 0) fun i hi=>by
  obtain ⟨j,hj,e⟩:=List.mem_iff_getElem.1 hi
  rw [Ge0] at hj
  have:=Xj0 h.n 0 j hj
  rw [List.getElem?_eq_getElem (by rw [Ge0];exact hj),e] at this
  have:=Option.some.inj this
  omega
 exact ⟨q1,q2⟩
def ZI0 (n:Nat) (tm:T V):List (Nat×V):=List.rec [] (fun i _ ih=>bif yx0 (tm.get undef i) then ih else (i,tm.get undef i)::ih) (qR0 n 0)
theorem XR1 {n:Nat} {tm:T V} {i:Nat} {v:V} (h:(i,v)∈ZI0 n tm):v=tm.get undef i∧yx0 v=false:=by
 have key:∀ l:List Nat,(i,v)∈(List.rec [] (fun i _ ih=>bif yx0 (tm.get undef i) then ih else (i,tm.get undef i)::ih) l:List (Nat×V))→v=tm.get undef i∧yx0 v=false:=by
  intro l
  induction l with
  | nil=>intro h;cases h
  | cons k l IH =>
   intro h
   cases hl:yx0 (tm.get undef k) with
   | true =>
    apply IH
    revert h
    show (i,v)∈(bif yx0 (tm.get undef k) then _ else _)→_
    rw [hl];exact id
   | false =>
    revert h
    show (i,v)∈(bif yx0 (tm.get undef k) then _ else _)→_
    rw [hl,cond_false]
    intro h
    rcases List.mem_cons.1 h with q | q
    ·cases q;exact ⟨rfl,hl⟩
    ·exact IH q
 exact key _ h
def zB0 (f:Nat→Option Nat) (o:Obj):Option Obj :=
 match o with
 | .defs=>some .defs
 | .loop st pend fn n tm ps a b d=>(match qc0 (rnL f) (ZI0 n tm) with
  | some L=>(match f d with
   | some d'=>some (.loop st pend fn n (mkT n L) ps a b d')
   | none=>none)
  | none=>none)
 | o=>rnO f o
theorem jZ1 {f:Nat→Option Nat} {o o':Obj} (ho:zB0 f o=some o'):qH0 o'=qH0 o:=by
 cases o with
 | defs=>cases ho;rfl
 | loop st pend fn n tm ps a b d =>
  change (match qc0 (rnL f) (ZI0 n tm) with | some L=>(match f d with | some d'=>some (Obj.loop st pend fn n (mkT n L) ps a b d') | none=>none) | none=>none)=some o' at ho
  split at ho
  ·split at ho
   ·cases ho;rfl
   ·cases ho
  ·cases ho
 | _=>exact qa1 (f:=f) ho
theorem jY1 {f:Nat→Option Nat} {g g':Gh} (hS:g'.S=g.S) (hf:∀ r j,f r=some j→g'.mu j=g.mu r∧g'.vr j=g.vr r) {w:World} {x:Nat×Nat×Nat} {o o':Obj} (h:ObjOk g w x o) (ho:zB0 f o=some o'):ObjOk g' w x o':=by
 cases o with
 | defs=>cases ho;exact h
 | loop st pend fn n tm ps a b d =>
  change (match qc0 (rnL f) (ZI0 n tm) with | some L=>(match f d with | some d'=>some (Obj.loop st pend fn n (mkT n L) ps a b d') | none=>none) | none=>none)=some o' at ho
  split at ho
  ·rename_i L hL
   split at ho
   ·rename_i d' hd'
    cases ho
    obtain ⟨h0,L0,a1,a2,a3,a4,a5,a6,a7,a8,a9,a10,k,a11⟩:=h
    obtain ⟨p1,p2⟩:=zH0 hL
    refine ⟨fun i hi=>ZU0 n L i hi,L0,a1,a2,a3,a4,a5,fun i v hv=>?_,a7,a8,a9,(hf d d' hd').2.trans a10,k,(hf d d' hd').1.trans a11⟩
    have hi:i<n:=by have:=yS0 hv;rw [a5] at this;exact this
    rcases ZT0 n L i hi with q | ⟨y,hm,q⟩
    ·exact .inl q
    ·right
     rw [q]
     obtain ⟨j,hj,hj'⟩:=List.mem_iff_getElem.1 hm
     obtain ⟨p,hp⟩:=qr0 (ZI0 n tm) j (by rw [← p1];exact hj)
     obtain ⟨z,z1,z2⟩:=p2 j p hp
     rw [List.getElem?_eq_getElem hj,hj'] at z1
     cases z1
     obtain ⟨i2,u⟩:=p
     unfold rnL at z2
     split at z2
     ·rename_i u' hu'
      cases z2
      obtain ⟨e1,e2⟩:=XR1 (List.mem_of_getElem? hp)
      rcases a6 _ v hv with c | c
      ·rw [← e1] at c;subst c;cases e2
      ·rw [← e1] at c;exact qb1 hS hf c hu'
     ·cases z2
   ·cases ho
  ·cases ho
 | _=>exact GZ0 hS hf h ho
def Za0 (h:Heap):List Nat:=qq0 (fun r=>match h.get r with
 | .loop _ _ _ n tm _ _ _ _=>qq0 (fun p=>qp0 8 p.2) (ZI0 n tm)
 | _=>[]) (qR0 h.n 0)
def QR0 (h1:Heap) (ρ ls:List Nat):Option (List Obj):=qc0 (fun r=>zB0 (ql0 ρ) (zY0 (fgt (qB0 r ls) (h1.get r)))) ρ
def gcF (N:Nat) (L:List (Nat×V)) (e:Ex) (fr:Fr) (h1:Heap):Res :=
 match qc0 (rnL (ql0 (zg0 N h1 (qN0 L)))) L with
 | none=>.code e (fr.on L) h1
 | some L'=>match QR0 h1 (zg0 N h1 (qN0 L)) (qY0 h1 80 (List.app (Za0 h1) (qq0 (qp0 8) (qN0 L))) []) with
  | none=>.code e (fr.on L) h1
  | some os=>bif okR h1.n (zg0 N h1 (qN0 L))&&yO0 N (zg0 N h1 (qN0 L))&&qb0 fr.marks&&qb0 fr.defers&&qJ0 fr.round then .code e (fr.on L') (hp os) else .code e (fr.on L) h1
def gcP (N:Nat) (L:List (Nat×V)) (v:V) (fr:Fr) (h1:Heap):Res :=
 match rnV (ql0 (zg0 N h1 (v::qN0 L))) 8 v with
 | none=>.code (.panic v) fr h1
 | some v'=>match QR0 h1 (zg0 N h1 (v::qN0 L)) (qY0 h1 80 (List.app (Za0 h1) (qq0 (qp0 8) (v::qN0 L))) []) with
  | none=>.code (.panic v) fr h1
  | some os=>bif okR h1.n (zg0 N h1 (v::qN0 L))&&yO0 N (zg0 N h1 (v::qN0 L))&&qb0 fr.marks&&qb0 fr.defers&&qJ0 fr.round then .code (.panic v') (fr.on []) (hp os) else .code (.panic v) fr h1
def loopR (N:Nat) (ks:Option (List Nat×List Nat×List Nat)) (r:Res):Res :=
 match ks with
 | none=>r
 | some ks=>match r with
  | .code e fr h1=>(match e with
   | .panic v=>gcP N (qv0 fr ks.2.2) v fr h1
   | .normal=>gcF N (qv0 fr ks.1) .normal fr h1
   | e=>gcF N (qv0 fr ks.2.1) e fr h1)
  | r=>r
theorem XQ1 {s:Fr} {ks:List Nat} {i:Nat} {v:V} (h:(i,v)∈qv0 s ks):v=s.at' i∧yx0 v=false:=by
 induction ks with
 | nil=>cases h
 | cons k ks IH =>
  change (i,v)∈(bif yx0 (s.at' k) then qv0 s ks else (k,s.at' k)::qv0 s ks) at h
  cases hb:yx0 (s.at' k) with
  | true=>rw [hb] at h;exact IH h
  | false =>
   rw [hb] at h
   rcases List.mem_cons.1 h with h | h
   ·cases h;exact ⟨rfl,hb⟩
   ·exact IH h
def Xk0:Res→Bool
 | .code e _ _=>(match e with
  | .panic _=>true
  | _=>false)
 | _=>false
def loopF (N:Nat) (ks:Option (List Nat×List Nat×List Nat)) (r:Res):Res:=bif Xk0 r then r else loopR N ks r
theorem FrOk.at_kept {g:Gh} {b:Frame} {fr:Fr} {a:Act} (hf:FrOk g b fr a) {ks:List Nat} {i:Nat} {x:V} (h:(i,x)∈qv0 fr ks) {v:Value} (hv:a.tmps[i]?=some v):R g v x:=by
 obtain ⟨rfl,h2⟩:=XQ1 h
 refine (hf.slots.rel i v hv).resolve_left fun e=>?_
 change fr.at' i=qz0 at e
 rw [e] at h2;cases h2
theorem FrOk.kept {g:Gh} {b:Frame} {fr:Fr} {a:Act} (hf:FrOk g b fr a) (ks:List Nat):FrOk g b (fr.on (qv0 fr ks)) a:=by
 refine ⟨hf.fn,⟨hf.slots.size,fun i v hv=>?_,fun i hi=>ZU0 fr.n _ i hi⟩,hf.round,hf.marks⟩
 have hi:i<fr.n:=by have:=yS0 hv;rw [hf.slots.size] at this;exact this
 rcases ZT0 fr.n (qv0 fr ks) i hi with q | ⟨y,hm,q⟩
 ·exact .inl q
 ·right
  change R g v ((mkT fr.n (qv0 fr ks)).get undef i)
  rw [q];exact hf.at_kept hm hv
def wkF (ks:Option (List Nat×List Nat×List Nat)) (fr:Fr):Fr :=
 match ks with
 | none=>fr
 | some ks=>fr.on (qv0 fr ks.1)
theorem FrOk.wk {g:Gh} {b:Frame} {fr:Fr} {a:Act} (hf:FrOk g b fr a) (ks:Option (List Nat×List Nat×List Nat)):FrOk g b (wkF ks fr) a:=by
 cases ks with
 | none=>exact hf
 | some ks=>exact hf.kept ks.1
theorem Gm0 {B:Ns} {w0:World} {g':Gh} {h1:Heap} {w:World} (hW:W B w0 g' h1 w) {ρ ls:List Nat} {os:List Obj} (hn:ρ.Nodup) (hlt:∀ r,r∈ρ→r<h1.n) (hos:QR0 h1 ρ ls=some os):W B w0 (g'.pull ρ) (hp os) w :=
 hW.pullF (fun r=>zY0 (fgt (qB0 r ls) (h1.get r))) (fun r x hx=>yC1 (fgt_ok _ (hW.obj r x hx))) (fun _=>(KZ0 _).trans (JE1 _ _)) hn hlt (fun _ _ _ h ho=>jY1 (g:=g') (g':=g'.pull ρ) rfl Gh.pull_pos h ho) (fun _ _ h=>jZ1 h) hos
theorem CodeOk.gcF {B:Ns} {w0:World} {g:Gh} {N:Nat} {m:Machine} {b:Frame} {k:List Item} {cs:List Frame} {e:Ex} {fr:Fr} {h1:Heap} (hD:Dom N g) (h:CodeOk P B w0 g m b k cs (.code e fr h1)) (he:∀ v,e≠.panic v) (ks:List Nat):CodeOk P B w0 g m b k cs (gcF N (qv0 fr ks) e fr h1):=by
 obtain ⟨g',a,w,hg,hW,hF,hA⟩:=h
 have hf:FrOk g' b fr a:=by cases e <;> first | exact hF | exact absurd rfl (he _)
 have hA':∀ g2,Arr P m b k cs g2 a w e:=fun g2=>by cases e <;> first | exact hA | exact absurd rfl (he _)
 have mkF:∀ {g2:Gh} {fr2:Fr},FrOk g2 b fr2 a→FrE g2 b fr2 a e:=fun q=>by cases e <;> first | exact q | exact q.weak
 have h0:CodeOk P B w0 g m b k cs (.code e (fr.on (qv0 fr ks)) h1):=⟨g',a,w,hg,hW,mkF (hf.kept ks),hA⟩
 unfold AM.gcF
 generalize zg0 N h1 (qN0 (qv0 fr ks))=ρ
 generalize qY0 h1 80 (List.app (Za0 h1) (qq0 (qp0 8) (qN0 (qv0 fr ks)))) []=ls
 split
 ·exact h0
 ·rename_i L' hL'
  split
  ·exact h0
  ·rename_i os hos
   cases hb:(okR h1.n ρ&&yO0 N ρ&&qb0 fr.marks&&qb0 fr.defers&&qJ0 fr.round) with
   | false=>exact h0
   | true =>
    simp only [Bool.and_eq_true] at hb
    obtain ⟨⟨⟨⟨b1,b2⟩,b3⟩,b4⟩,b5⟩:=hb
    obtain ⟨hn,hlt⟩:=YU0 ρ b1
    have hm0:fr.marks=[]:=by revert b3;cases fr.marks <;> simp [qb0]
    have hd0:fr.defers=[]:=by revert b4;cases fr.defers <;> simp [qb0]
    have hr0:fr.round=none:=by revert b5;cases fr.round <;> simp [qJ0]
    have hfn:∀ r j,ql0 ρ r=some j→(g'.pull ρ).mu j=g'.mu r∧(g'.pull ρ).vr j=g'.vr r:=fun r j e=>Gh.pull_at (zN0 e)
    obtain ⟨p1,p2⟩:=zH0 hL'
    refine ⟨g'.pull ρ,a,w,hg.pull hD (Gc0 b2),Gm0 hW hn hlt hos,mkF ⟨hf.fn,⟨hf.slots.size,fun i v hv=>?_,fun i hi=>ZU0 fr.n _ i hi⟩,?_,?_⟩,hA' _⟩
    ·have hi:i<fr.n:=by have:=yS0 hv;rw [hf.slots.size] at this;exact this
     rcases ZT0 fr.n L' i hi with q | ⟨y,hm,q⟩
     ·exact .inl q
     ·right
      change R (g'.pull ρ) v ((mkT fr.n L').get undef i)
      rw [q]
      obtain ⟨j,hj,hj'⟩:=List.mem_iff_getElem.1 hm
      obtain ⟨p,hp⟩:=qr0 (qv0 fr ks) j (by rw [← p1];exact hj)
      obtain ⟨z,z1,z2⟩:=p2 j p hp
      rw [List.getElem?_eq_getElem hj,hj'] at z1
      cases z1
      unfold rnL at z2
      split at z2
      ·rename_i y' hy'
       cases z2
       exact qb1 (g:=g') (g':=g'.pull ρ) rfl hfn (hf.at_kept (List.mem_of_getElem? hp) hv) hy'
      ·cases z2
    ·have:=hf.round
     change RoundOk (g'.pull ρ) b.roundOf fr.round
     rw [hr0] at this ⊢;exact this
    ·have:=hf.marks
     change DefsOk (g'.pull ρ) a.defers fr.marks fr.defers
     rw [hm0,hd0] at this ⊢
     have h0:a.defers=[]:=by have:=this.calls.1;simpa using this
     rw [h0];exact DefsOk.nil _
theorem CodeOk.gcP {B:Ns} {w0:World} {g:Gh} {N:Nat} {m:Machine} {b:Frame} {k:List Item} {cs:List Frame} {v:V} {fr:Fr} {h1:Heap} (hD:Dom N g) (h:CodeOk P B w0 g m b k cs (.code (.panic v) fr h1)) (L:List (Nat×V)):CodeOk P B w0 g m b k cs (gcP N L v fr h1):=by
 unfold AM.gcP
 generalize zg0 N h1 (v::qN0 L)=ρ
 generalize qY0 h1 80 (List.app (Za0 h1) (qq0 (qp0 8) (v::qN0 L))) []=ls
 split
 ·exact h
 ·rename_i v' hv'
  split
  ·exact h
  ·rename_i os hos
   cases hb:(okR h1.n ρ&&yO0 N ρ&&qb0 fr.marks&&qb0 fr.defers&&qJ0 fr.round) with
   | false=>exact h
   | true =>
    simp only [Bool.and_eq_true] at hb
    obtain ⟨⟨⟨⟨b1,b2⟩,b3⟩,b4⟩,b5⟩:=hb
    obtain ⟨hn,hlt⟩:=YU0 ρ b1
    have hm0:fr.marks=[]:=by revert b3;cases fr.marks <;> simp [qb0]
    have hd0:fr.defers=[]:=by revert b4;cases fr.defers <;> simp [qb0]
    have hr0:fr.round=none:=by revert b5;cases fr.round <;> simp [qJ0]
    obtain ⟨g',a,w,hg,hW,hf,u,todo,hR,hst⟩:=h
    have hfn:∀ r j,ql0 ρ r=some j→(g'.pull ρ).mu j=g'.mu r∧(g'.pull ρ).vr j=g'.vr r:=fun r j e=>Gh.pull_at (zN0 e)
    refine ⟨g'.pull ρ,a,w,hg.pull hD (Gc0 b2),Gm0 hW hn hlt hos,⟨hf.fn,⟨hf.slots.size,fun i v hv=>?_,fun i hi=>ZU0 fr.n [] i hi⟩,?_,?_⟩,u,todo,yE0 (g:=g') (g':=g'.pull ρ) rfl hfn 8 hR hv',hst⟩
    ·have hi:i<fr.n:=by have:=yS0 hv;rw [hf.slots.size] at this;exact this
     rcases ZT0 fr.n [] i hi with q | ⟨y,hm,q⟩
     ·exact .inl q
     ·cases hm
    ·have:=hf.round
     change RoundOk (g'.pull ρ) b.roundOf fr.round
     rw [hr0] at this ⊢;exact this
    ·have:=hf.marks
     change DefsOk (g'.pull ρ) a.defers fr.marks fr.defers
     rw [hm0,hd0] at this ⊢
     have h0:a.defers=[]:=by have:=this.calls.1;simpa using this
     rw [h0];exact DefsOk.nil _
theorem CodeOk.loopR {B:Ns} {w0:World} {g:Gh} {N:Nat} {m:Machine} {b:Frame} {k:List Item} {cs:List Frame} {r:Res} {ks:Option (List Nat×List Nat×List Nat)} (hD:Dom N g) (h:CodeOk P B w0 g m b k cs r):CodeOk P B w0 g m b k cs (loopR N ks r):=by
 unfold AM.loopR
 split
 ·exact h
 ·rename_i ks
  split
  ·rename_i e fr h1
   cases e with
   | panic v=>exact h.gcP hD _
   | normal=>exact h.gcF hD (fun v q=>by cases q) ks.1
   | _=>exact h.gcF hD (fun v q=>by cases q) ks.2.1
  ·exact h
theorem CodeOk.loopF {B:Ns} {w0:World} {g:Gh} {N:Nat} {m:Machine} {b:Frame} {k:List Item} {cs:List Frame} {r:Res} {ks:Option (List Nat×List Nat×List Nat)} (hD:Dom N g) (h:CodeOk P B w0 g m b k cs r):CodeOk P B w0 g m b k cs (loopF N ks r):=by
 unfold AM.loopF
 cases Xk0 r with
 | true=>exact h
 | false=>exact h.loopR hD
def Kd0 (sz:Nat) (v:V):V :=
 match v with
 | .nils=>.osl sz []
 | .gsl s es c=>bif Nat.beq s sz then .osl s es else .gsl s es c
 | v=>v
theorem QK1 (sz:Nat) (v:V):Wk v (Kd0 sz v):=by
 cases v with
 | nils=>exact .nils sz
 | gsl s es c =>
  unfold Kd0
  simp only
  cases Nat.beq s sz with
  | true=>exact .gsl
  | false=>exact .refl _
 | _=>exact .refl _
def Xo0 (P:Program) (d:Nat):TypeId→Option (List TypeId) :=
 Nat.rec (motive:=fun _=>TypeId→Option (List TypeId)) (fun _=>none) (fun _ ih t=>match P.underlying t with
  | some (.struct fs)=>List.rec (some []) (fun f _ r=>match ih f.type with
   | some a=>(match r with
    | some b=>some (List.app a b)
    | none=>none)
   | none=>none) fs.toList
  | some _=>some [t]
  | none=>none) d
def canC (P:Program) (t:TypeId) (c:V):V :=
 match P.underlying t with
 | some (.slice e)=>Kd0 (size P e) c
 | _=>c
def canL (P:Program) (ts:List TypeId):List V→List V :=
 List.rec (motive:=fun _=>List V→List V) (fun cs=>cs) (fun t _ ih cs=>match cs with
  | []=>[]
  | c::cs=>canC P t c::ih cs) ts
def zW0 (P:Program) (t:TypeId) (v:V):V :=
 match v with
 | .agg cs=>(match Xo0 P 6 t with
  | some ts=>.agg (canL P ts cs)
  | none=>.agg cs)
 | v=>canC P t v
theorem ze1 (P:Program) (t:TypeId) (c:V):Wk c (canC P t c):=by
 unfold canC
 split
 ·exact QK1 _ _
 ·exact .refl _
theorem ZV1 (P:Program) (ts:List TypeId):∀ cs,Wks cs (canL P ts cs):=by
 have rf:∀ cs:List V,Wks cs cs:=fun cs=>⟨rfl,fun i x y p q=>by rw [p] at q;cases q;exact .refl _⟩
 induction ts with
 | nil=>exact rf
 | cons t ts IH =>
  intro cs
  cases cs with
  | nil=>exact .nil
  | cons c cs=>exact .cons (ze1 P t c) (IH cs)
theorem Yx0 (P:Program) (t:TypeId) (v:V):Wk v (zW0 P t v):=by
 cases v with
 | agg cs =>
  unfold zW0
  simp only
  cases Xo0 P 6 t with
  | none=>exact .refl _
  | some ts=>exact .aggs (ZV1 P ts cs)
 | _=>exact ze1 P t _
def canRL (P:Program) (ts:List TypeId):List V→List V :=
 List.rec (motive:=fun _=>List V→List V) (fun cs=>cs) (fun t _ ih cs=>match cs with
  | []=>[]
  | c::cs=>zW0 P t c::ih cs) ts
def Kx0 (P:Program) (f:FuncId) (v:V):V :=
 match P.funcs[f]? with
 | some fn=>(match fn.resultTypes.toList with
  | [t]=>zW0 P t v
  | ts=>(match v with
   | .tup vs=>.tup (canRL P ts vs)
   | v=>v))
 | none=>v
theorem ZW1 (P:Program) (ts:List TypeId):∀ cs,Wks cs (canRL P ts cs):=by
 have rf:∀ cs:List V,Wks cs cs:=fun cs=>⟨rfl,fun i x y p q=>by rw [p] at q;cases q;exact .refl _⟩
 induction ts with
 | nil=>exact rf
 | cons t ts IH =>
  intro cs
  cases cs with
  | nil=>exact .nil
  | cons c cs=>exact .cons (Yx0 P t c) (IH cs)
theorem Wk.tups {xs ys:List V} (h:Wks xs ys):Wk (.tup xs) (.tup ys):=fun g v hR=>by
 obtain ⟨cs,rfl,hn,h'⟩:=hR.tup_inv
 refine .tup (hn.trans h.1) fun i v y p q=>?_
 obtain ⟨x,hx⟩:=qr0 xs i (by rw [h.1];exact qd0 q)
 exact h.2 i x y hx q g v (h' i v x p hx)
theorem ZX1 (P:Program) (f:FuncId) (v:V):Wk v (Kx0 P f v):=by
 unfold Kx0
 split
 ·split
  ·exact Yx0 P _ v
  ·split
   ·exact .tups (ZW1 P _ _)
   ·exact .refl _
 ·exact .refl _
def isGp:Option V→Bool
 | some (.gptr _ _ _)=>true
 | _=>false
def opC (P:Program) (C:Cf) (G:Nat→Option V) (tm:T V) (o:Oper) (r:Rs):Rs :=
 match o.op with
 | .load t a=>bif isGp (ev G tm a) then (match r with
  | .val v h=>.val (zW0 P t v) h
  | r=>r) else r
 | .build t _=>bif C.cb t then (match r with
  | .val v h=>.val (zW0 P t v) h
  | r=>r) else r
 | _=>r
def preV (C:Cf) (f:FuncId) (t:TypeId) (b:Bool) (h:Heap) (v:V):Option (V×Heap) :=
 Bool.rec (some (C.nz f t v,h)) (match pub [] depth h v with
  | some (v',h')=>some (C.nz f t v',h')
  | none=>none) b
def preF (C:Cf) (fr:Fr) (h:Heap) (t:TypeId) (i:Tmp) (b:Bool):Fr×Heap :=
 bif Nat.blt i fr.n then (match yU0 (fr.at' i) with
  | some v=>(match preV C fr.fn t b h v with
   | some (v',h')=>(fr.st i v',h')
   | none=>(fr,h))
  | none=>(fr,h)) else (fr,h)
def zr0 (C:Cf) (fr:Fr) (h:Heap) (o:Oper):Fr×Heap :=
 match o.op with
 | .store t _ v=>(match v with
  | .tmp i=>(match C.ps fr.fn t with
   | some b=>preF C fr h t i b
   | none=>(fr,h))
  | _=>(fr,h))
 | _=>(fr,h)
theorem FrOk.re {g g':Gh} {b:Frame} {fr:Fr} {a:Act} (hf:FrOk g b fr a) (hx:Ext g g') {i:Tmp} (hi:i<fr.n) {y:V} (hy:∀ v,a.tmps[i]?=some v→R g' v y):FrOk g' b (fr.st i y) a:=by
 have h1:=hf.mono hx
 refine ⟨h1.fn,⟨h1.slots.size,fun j u hu=>?_,fun j hj=>?_⟩,h1.round,h1.marks⟩
 ·change (fr.tm.set undef y i).get undef j=qz0∨R g' u ((fr.tm.set undef y i).get undef j)
  rw [T.get_set]
  by_cases e:i=j
  ·subst e;rw [if_pos rfl];exact .inr (hy u hu)
  ·rw [if_neg e];exact h1.slots.rel j u hu
 ·change (fr.tm.set undef y i).get undef j=undef∨(fr.tm.set undef y i).get undef j=qz0
  rw [T.get_set]
  have hj:fr.n≤j:=hj
  rw [if_neg (fun e=>by subst e;exact Nat.lt_irrefl _ (Nat.lt_of_lt_of_le hi hj))]
  exact h1.slots.none j hj
theorem GQ1 {C:Cf} {B:Ns} {w0:World} {g:Gh} {h:Heap} {w:World} {b:Frame} {fr:Fr} {a:Act} (hW:W B w0 g h w) (hf:FrOk g b fr a) (t:TypeId) (i:Tmp) (c:Bool):∃ g',Grown B g g'∧W B w0 g' (preF C fr h t i c).2 w∧FrOk g' b (preF C fr h t i c).1 a:=by
 have h0:∃ g',Grown B g g'∧W B w0 g' (fr,h).2 w∧FrOk g' b (fr,h).1 a:=⟨g,.refl _ _,hW,hf⟩
 unfold preF
 cases hb:Nat.blt i fr.n with
 | false=>exact h0
 | true =>
  rw [Nat.blt_eq] at hb
  simp only [cond_true]
  cases hl:yU0 (fr.at' i) with
  | none=>exact h0
  | some v =>
   simp only
   have hv:fr.at' i=v∧fr.at' i≠qz0:=by
    unfold yU0 at hl
    split at hl
    ·cases hl
    ·rename_i hne
     cases hl
     exact ⟨rfl,fun e=>hne _ _ _ _ _ e⟩
   obtain ⟨hv,hne⟩:=hv
   obtain ⟨u,hu⟩:∃ u,a.tmps[i]?=some u:=⟨_,Array.getElem?_eq_getElem (by rw [hf.slots.size];exact hb)⟩
   have hR:R g u v:=by
    have:=(hf.slots.rel i u hu).resolve_left hne
    rw [← hv];exact this
   unfold preV
   cases c with
   | false=>exact ⟨g,.refl _ _,hW,hf.re (Ext.refl _) hb fun x hx=>by rw [hu] at hx;cases hx;exact C.nzok _ _ _ _ _ hR⟩
   | true =>
    simp only
    cases hp:pub [] depth h v with
    | none=>exact h0
    | some p =>
     obtain ⟨v',h'⟩:=p
     obtain ⟨S,hP,hGR,_⟩:=ju0 [] depth hW hR hp
     exact ⟨g.say S,hP.grown,hP.world,hf.re hP.grown.ext hb fun x hx=>by rw [hu] at hx;cases hx;exact C.nzok _ _ _ _ _ (.gnd hGR)⟩
theorem GR1 {C:Cf} {B:Ns} {w0:World} {g:Gh} {h:Heap} {w:World} {b:Frame} {fr:Fr} {a:Act} (hW:W B w0 g h w) (hf:FrOk g b fr a) (o:Oper):∃ g',Grown B g g'∧W B w0 g' (zr0 C fr h o).2 w∧FrOk g' b (zr0 C fr h o).1 a:=by
 unfold zr0
 split
 ·split
  ·split
   ·exact GQ1 hW hf _ _ _
   ·exact ⟨g,.refl _ _,hW,hf⟩
  ·exact ⟨g,.refl _ _,hW,hf⟩
 ·exact ⟨g,.refl _ _,hW,hf⟩
def Yg0 (P:Program) (E:Env) (C:Cf) (ihr:Task→Res) (all:List Oper) (o:Oper) (ih:Fr→Heap→Res) (fr:Fr) (h:Heap):Res :=
 match wanted all fr o with
 | none=>.none fr.fn (some o)
 | some b=>Bool.rec (zM0 o fr ih undef h) (qM0 E ihr false o fr ih (fun v h=>.code (.panic v) fr h) (opC P C E.glob fr.tm o (qm0 (E.lit fr.fn) P E.glob fr.tm h o))) b
def Qo0 (P:Program) (E:Env) (C:Cf) (ihr:Task→Res) (all:List Oper) (l:List Oper):Fr→Heap→Res :=
 List.rec (motive:=fun _=>Fr→Heap→Res) (fun fr h=>.code .normal fr h) (fun o _ ih fr h=>qW0 (xpA C E.glob (zr0 C fr h o).1 (zr0 C fr h o).2 o) (fun h1=>Yg0 P E C ihr all o (fun fr' h'=>qW0 (zb0 C o fr' h') (fun h2=>ih fr' h2)) (zr0 C fr h o).1 h1)) l
def ihL (C:Cf) (ih:Task→Res) (t:Task):Res :=
 match t with
 | .code c fr h=>loopR h.n (C.live fr.fn c) (ih (.code c fr h))
 | t=>ih t
def Ka0 (P:Program) (E:Env) (C:Cf) (ih:Task→Res) (t:Task):Res :=
 match t with
 | .code c fr h=>(match c with
  | .region id ops draw=>bif draw then step P E ih (.code (.region id ops draw) fr h) else Qo0 P E C ih ops.toList ops.toList fr h
  | .loop b=>step P E (ihL C ih) (.code (.loop b) fr h)
  | c=>step P E ih (.code c fr h))
 | t=>step P E ih t
theorem yZ1 {lit:Bool} {G:Nat→Option V} {tm:T V} {h:Heap} {o:Oper} {t:TypeId} {a:Operand} (ho:o.op=.load t a):qm0 lit P G tm h o=o1 G tm h a (load P h t):=by
 rw [zi0 (fun _ _ _ e=>by rw [ho] at e;cases e)]
 unfold qC0;rw [ho];rfl
theorem QV1 {C:Cf} {ih:Task→Res} {B:Ns} {w0:World} (hI:Snd P E ih) {g:Gh} {h:Heap} {w:World} {b:Frame} {k:List Item} {cs:List Frame} {fr:Fr} {a:Act} {o:Oper} {ops:Array Oper} {i:Nat} {rest:List Nat} {next:Fr→Heap→Res}
 (ho:ops[i]?=some o) (hw:Region.wanted o (yielded ops a.tmps)=true) (hW:W B w0 g h w) (hG:GlobOk E.glob g.S) (hf:FrOk g b fr a)
 (hn:∀ g' h' w' fr' a',Grown B g g'→W B w0 g' h' w'→GlobOk E.glob g'.S→FrOk g' b fr' a'→CodeOk P B w0 g' (lone (b.atR a' (.inRegion ops rest::k)) cs w') b k cs (next fr' h')) :
 CodeOk P B w0 g (lone (b.atR a (.inRegion ops (i::rest)::k)) cs w) b k cs (qM0 E ih false o fr next (fun v h=>.code (.panic v) fr h) (opC P C E.glob fr.tm o (qm0 (E.lit fr.fn) P E.glob fr.tm h o))):=by
 unfold opC
 split
 ·rename_i t x hop
  cases isGp (ev E.glob fr.tm x) with
  | false=>exact Jx0 hI ho hw hW hG hf hn
  | true =>
   simp only [cond_true]
   have hgood:=GJ0 (P:=P) (E.lit fr.fn) hW hf.slots hG o
   have hsem:=Qn1 hf (o:=o) (fun hd=>by obtain ⟨c,hc⟩:=hd;rw [hop] at hc;cases hc)
   rw [← hsem] at hgood
   have hld:=yZ1 (P:=P) (lit:=E.lit fr.fn) (G:=E.glob) (tm:=fr.tm) (h:=h) hop
   generalize qm0 (E.lit fr.fn) P E.glob fr.tm h o=r at hgood hld
   have hr:(∃ v,r=.val v h)∨r=.stuck:=by
    rw [hld,ZV0]
    cases ev E.glob fr.tm x with
    | none=>exact .inr rfl
    | some v =>
     simp only
     cases load P h t v with
     | none=>exact .inr rfl
     | some y=>exact .inl ⟨y,rfl⟩
   rcases hr with ⟨v,rfl⟩ | rfl
   ·obtain ⟨u,w',g',e,hg,hW',hR⟩:=hgood
    exact jY0 (h':=h) (w':=w') hg hW' hG hf (Yx0 P t v g' u hR) (.one (Zl0 ho hw e)) (fun fr' a' p q=>hn g' h w' fr' a' hg hW' p q)
   ·trivial
 ·rename_i t ps hop
  cases C.cb t with
  | false=>exact Jx0 hI ho hw hW hG hf hn
  | true =>
   simp only [cond_true]
   have hgood:=GJ0 (P:=P) (E.lit fr.fn) hW hf.slots hG o
   have hsem:=Qn1 hf (o:=o) (fun hd=>by obtain ⟨c,hc⟩:=hd;rw [hop] at hc;cases hc)
   rw [← hsem] at hgood
   have hld:qm0 (E.lit fr.fn) P E.glob fr.tm h o=yV0 P E.glob fr.tm h t ps:=by
    rw [zi0 (fun _ _ _ e=>by rw [hop] at e;cases e)]
    unfold qC0;rw [hop];rfl
   generalize qm0 (E.lit fr.fn) P E.glob fr.tm h o=r at hgood hld
   have hr:(∃ v,r=.val v h)∨r=.stuck:=by
    rw [hld]
    unfold yV0
    split
    ·rename_i l _
     cases JF0 P t l with
     | none=>exact .inr rfl
     | some v=>exact .inl ⟨v,rfl⟩
    ·exact .inr rfl
   rcases hr with ⟨v,rfl⟩ | rfl
   ·obtain ⟨u,w',g',e,hg,hW',hR⟩:=hgood
    exact jY0 (h':=h) (w':=w') hg hW' hG hf (Yx0 P t v g' u hR) (.one (Zl0 ho hw e)) (fun fr' a' p q=>hn g' h w' fr' a' hg hW' p q)
   ·trivial
 ·exact Jx0 hI ho hw hW hG hf hn
theorem qH2 {C:Cf} {ih:Task→Res} {B:Ns} {w0:World} (hI:Snd P E ih) {b:Frame} {k:List Item} {cs:List Frame} {ops:Array Oper}:∀ (l:List Oper) (i:Nat),ops.toList.drop i=l→∀ {g:Gh} {h:Heap} {w:World} {fr:Fr} {a:Act},W B w0 g h w→GlobOk E.glob g.S→FrOk g b fr a →
 CodeOk P B w0 g (lone (b.atR a (.inRegion ops (List.range' i l.length)::k)) cs w) b k cs (Qo0 P E C ih ops.toList l fr h):=by
 intro l
 induction l with
 | nil =>
  intro i _ g h w fr a hW hG hf
  exact ⟨g,a,w,Grown.refl _ _,hW,hf,.one stepR_region_end⟩
 | cons o l IH =>
  intro i hl g h w fr a hW hG hf
  have ho:ops[i]?=some o:=by
   have:(ops.toList.drop i)[0]?=some o:=by rw [hl];rfl
   rw [List.getElem?_drop] at this
   simpa using this
  have hl':ops.toList.drop (i+1)=l:=by
   rw [← List.drop_drop,hl];rfl
  rw [List.length_cons,List.range'_succ]
  obtain ⟨g',hg',hW',hf'⟩:=GR1 (C:=C) hW hf o
  have hG':=hG.mono hg'.ext.S
  refine .of_steps (Steps.refl _ _) hg' ?_
  change CodeOk P B w0 g' _ b k cs (qW0 (xpA C E.glob (zr0 C fr h o).1 (zr0 C fr h o).2 o) (fun h1=>Yg0 P E C ih ops.toList o (fun fr' h'=>qW0 (zb0 C o fr' h') (fun h2=>Qo0 P E C ih ops.toList l fr' h2)) (zr0 C fr h o).1 h1))
  simp only [yk0]
  obtain ⟨g2,hg2,hW2⟩:=xpA_ok (C:=C) hW' E.glob (zr0 C fr h o).1 o
  refine .of_steps (Steps.refl _ _) hg2 ?_
  replace hf':=hf'.mono hg2.ext
  replace hG':=hG'.mono hg2.ext.S
  generalize xpA C E.glob (zr0 C fr h o).1 (zr0 C fr h o).2 o=h2 at hW2
  generalize (zr0 C fr h o).1=fr2 at hf'
  clear hW hf hG hg' hW'
  replace hW':=hW2
  clear hW2 hg2
  replace g':=g2
  revert fr2 h2
  intro h fr hf hW
  have hG:=hG'
  unfold Yg0
  cases hwt:wanted ops.toList fr o with
  | none=>trivial
  | some t =>
   have hw:=Jt0 hf hwt
   cases t with
   | true=>exact QV1 hI ho hw hW hG hf fun g' h' w' fr' a' hg hW' hG' hf'=>IH (i+1) hl' (Qx1 hW' _ _) hG' hf'
   | false =>
    have hs:=stepR_op_skip (P:=P) (b:=b) (a:=a) (k:=k) (cs:=cs) (w:=w) (ops:=ops) (i:=i) (rest:=List.range' (i+1) l.length) (by simp [ho];simpa using hw)
    simp only [ho,Option.bind_some] at hs
    exact jY0 (h':=h) (w':=w) (Grown.refl _ _) hW hG hf R.undef (.one hs) (fun fr' a' p q=>IH (i+1) hl' (Qx1 hW _ _) p q)
theorem qt2 {C:Cf} {ih:Task→Res} {B:Ns} {w0:World} (hI:Snd P E ih) {b:Frame} {k:List Item} {cs:List Frame} {ops:Array Oper} {id:Nat} {g:Gh} {h:Heap} {w:World} {fr:Fr} {a:Act} (hW:W B w0 g h w) (hG:GlobOk E.glob g.S) (hf:FrOk g b fr a) :
 CodeOk P B w0 g (lone (b.atR a (.code (.region id ops false)::k)) cs w) b k cs (Qo0 P E C ih ops.toList ops.toList fr h):=by
 refine .of_steps (.one stepR_region) (Grown.refl _ _) ?_
 have:=qH2 (C:=C) hI (k:=k) (cs:=cs) (ops:=ops) ops.toList 0 (by simp) hW hG hf
 rw [Array.length_toList,← List.range_eq_range'] at this
 exact this
theorem FrOk.rn {g g':Gh} {b:Frame} {fr:Fr} {a:Act} (hf:FrOk g b fr a) {f:Nat→Option Nat} (hS:g'.S=g.S) (hfn:∀ r j,f r=some j→g'.mu j=g.mu r∧g'.vr j=g.vr r) {ks:List Nat} {L':List (Nat×V)} (hL':qc0 (rnL f) (qv0 fr ks)=some L') (h3:(qb0 fr.marks&&qb0 fr.defers&&qJ0 fr.round)=true):FrOk g' b (fr.on L') a:=by
 simp only [Bool.and_eq_true] at h3
 obtain ⟨⟨b3,b4⟩,b5⟩:=h3
 have hm0:fr.marks=[]:=by revert b3;cases fr.marks <;> simp [qb0]
 have hd0:fr.defers=[]:=by revert b4;cases fr.defers <;> simp [qb0]
 have hr0:fr.round=none:=by revert b5;cases fr.round <;> simp [qJ0]
 obtain ⟨p1,p2⟩:=zH0 hL'
 refine ⟨hf.fn,⟨hf.slots.size,fun i v hv=>?_,fun i hi=>ZU0 fr.n _ i hi⟩,?_,?_⟩
 ·have hi:i<fr.n:=by have:=yS0 hv;rw [hf.slots.size] at this;exact this
  rcases ZT0 fr.n L' i hi with q | ⟨y,hm,q⟩
  ·exact .inl q
  ·right
   change R g' v ((mkT fr.n L').get undef i)
   rw [q]
   obtain ⟨j,hj,hj'⟩:=List.mem_iff_getElem.1 hm
   obtain ⟨p,hp⟩:=qr0 (qv0 fr ks) j (by rw [← p1];exact hj)
   obtain ⟨z,z1,z2⟩:=p2 j p hp
   rw [List.getElem?_eq_getElem hj,hj'] at z1
   cases z1
   unfold rnL at z2
   split at z2
   ·rename_i y' hy'
    cases z2
    exact qb1 hS hfn (hf.at_kept (List.mem_of_getElem? hp) hv) hy'
   ·cases z2
 ·have:=hf.round
  change RoundOk g' b.roundOf fr.round
  rw [hr0] at this ⊢;exact this
 ·have:=hf.marks
  change DefsOk g' a.defers fr.marks fr.defers
  rw [hm0,hd0] at this ⊢
  have h0:a.defers=[]:=by have:=this.calls.1;simpa using this
  rw [h0];exact DefsOk.nil _
def noRow (o:Obj):Bool :=
 match o with
 | .row _ _ _ _ _ _=>false
 | .rowS _ _ _ _ _ _=>false
 | _=>true
def Gn0 (h:Heap) (ls:List Nat):List Nat:=List.rec [] (fun r _ ih=>bif qB0 r ls||noRow (h.get r) then r::ih else ih) (qR0 h.n 0)
def outC (h:Heap) (ρ ks:List Nat) (r:Res):Res :=
 match r with
 | .code e fr h1=>bif Nat.ble (List.len ρ) h1.n&&(qb0 fr.marks&&qb0 fr.defers&&qJ0 fr.round) then
  (match qc0 (fun j=>zB0 (bkN ρ h.n) (h1.get j)) (qR0 h1.n 0) with
  | none=>.none 0 none
  | some os=>(match e with
   | .panic v=>(match rnV (bkN ρ h.n) 8 v with
    | none=>.none 0 none
    | some v'=>.code (.panic v') (fr.on []) (zt0 ρ os h))
   | e=>(match qc0 (rnL (bkN ρ h.n)) (qv0 fr ks) with
    | none=>.none 0 none
    | some L=>.code e (fr.on L) (zt0 ρ os h))))
  else .none 0 none
 | .none a b=>.none a b
 | _=>.none 0 none
def jW0 (ih0:Task→Res) (ks:Option (List Nat×List Nat×List Nat)) (ρ:List Nat) (b:Code) (fr:Fr) (h:Heap):Res :=
 match ks with
 | none=>ih0 (.code (.loop b) fr (zl0 h))
 | some ks=>bif Nat.beq (List.len ρ) h.n then ih0 (.code (.loop b) (fr.on (qv0 fr ks.1)) (zl0 h)) else
  match qc0 (rnL (ql0 ρ)) (qv0 fr ks.1) with
  | none=>ih0 (.code (.loop b) (fr.on (qv0 fr ks.1)) (zl0 h))
  | some L'=>match QR0 h ρ ρ with
   | none=>ih0 (.code (.loop b) (fr.on (qv0 fr ks.1)) (zl0 h))
   | some os=>bif okR h.n ρ&&(qb0 fr.marks&&qb0 fr.defers&&qJ0 fr.round) then outC h ρ ks.2.1 (ih0 (.code (.loop b) (fr.on L') (hp os))) else ih0 (.code (.loop b) (fr.on (qv0 fr ks.1)) (zl0 h))
theorem FrOkP.rn0 {g g':Gh} {b:Frame} {fr:Fr} {a:Act} (hf:FrOkP g b fr a) (h3:(qb0 fr.marks&&qb0 fr.defers&&qJ0 fr.round)=true):FrOkP g' b (fr.on []) a:=by
 simp only [Bool.and_eq_true] at h3
 obtain ⟨⟨b3,b4⟩,b5⟩:=h3
 have hm0:fr.marks=[]:=by revert b3;cases fr.marks <;> simp [qb0]
 have hd0:fr.defers=[]:=by revert b4;cases fr.defers <;> simp [qb0]
 have hr0:fr.round=none:=by revert b5;cases fr.round <;> simp [qJ0]
 refine ⟨hf.fn,⟨hf.slots.size,fun i v hv=>?_,fun i hi=>ZU0 fr.n [] i hi⟩,?_,?_⟩
 ·have hi:i<fr.n:=by have:=yS0 hv;rw [hf.slots.size] at this;exact this
  rcases ZT0 fr.n [] i hi with q | ⟨y,hm,q⟩
  ·exact .inl q
  ·cases hm
 ·have:=hf.round
  change RoundOk g' b.roundOf fr.round
  rw [hr0] at this ⊢;exact this
 ·have:=hf.marks
  change DefsOk g' a.defers fr.marks fr.defers
  rw [hm0,hd0] at this ⊢
  have h0:a.defers=[]:=by have:=this.calls.1;simpa using this
  rw [h0];exact DefsOk.nil _
def qc1 (h:Heap) (ks:List Nat×List Nat×List Nat) (fr:Fr):List Nat:=List.app (Za0 h) (qq0 (qp0 8) (qN0 (qv0 fr ks.1)))
def ZL0 (h:Heap) (ks:Option (List Nat×List Nat×List Nat)) (fr:Fr):List Nat :=
 match ks with
 | none=>[]
 | some ks=>Gn0 h (qY0 h 80 (qc1 h ks fr) [])
theorem yp1 {ih0:Task→Res} {c:Code} {m:Machine} {b:Frame} {k:List Item} {cs:List Frame} {a:Act} {w:World} (hI:∀ {B:Ns} {w0:World} {g:Gh} {h:Heap} (fr:Fr),W B w0 g h w→GlobOk E.glob g.S→FrOk g b fr a→CodeOk P B w0 g m b k cs (ih0 (.code (.loop c) fr h)))
 {B:Ns} {w0:World} {g:Gh} {h:Heap} {fr:Fr} (hW:W B w0 g h w) (hG:GlobOk E.glob g.S) (hf:FrOk g b fr a) (ks:Option (List Nat×List Nat×List Nat)) (ρ:List Nat):CodeOk P B w0 g m b k cs (jW0 ih0 ks ρ c fr h):=by
 unfold jW0
 split
 ·exact hI fr (Xc0 hW).1 hG hf
 ·rename_i ks
  have hd:=hI (fr.on (qv0 fr ks.1)) (Xc0 hW).1 hG (hf.kept ks.1)
  cases Nat.beq (List.len ρ) h.n with
  | true=>exact hd
  | false =>
   simp only [cond_false]
   split
   ·exact hd
   ·rename_i L' hL'
    split
    ·exact hd
    ·rename_i os hos
     cases hk:(okR h.n ρ&&(qb0 fr.marks&&qb0 fr.defers&&qJ0 fr.round)) with
     | false=>exact hd
     | true =>
      simp only [cond_true]
      rw [Bool.and_eq_true] at hk
      obtain ⟨hk,h3⟩:=hk
      obtain ⟨hn,hlt⟩:=YU0 ρ hk
      have hWs:=(Gm0 hW hn hlt hos).besides
      have hc:=hI (fr.on L') hWs hG (hf.rn (g':=g.pull ρ) rfl Gh.pull_pos hL' h3)
      clear hd
      unfold outC
      generalize ih0 (.code (.loop c) (fr.on L') (hp os))=r at hc
      cases r with
      | ret _ _=>trivial
      | panic _ _=>trivial
      | dret _ _=>trivial
      | none _ _=>trivial
      | code e fr2 h1 =>
       obtain ⟨g1,a1,w1,hg1,hW1,hF,hA⟩:=hc
       simp only
       cases hb:(Nat.ble (List.len ρ) h1.n&&(qb0 fr2.marks&&qb0 fr2.defers&&qJ0 fr2.round)) with
       | false=>trivial
       | true =>
        simp only [cond_true]
        rw [Bool.and_eq_true,Nat.ble_eq,List.len_eq] at hb
        obtain ⟨hb,h4⟩:=hb
        split
        ·trivial
        ·rename_i os' hos'
         obtain ⟨q1,q2,q3⟩:=hW.mergeF hn hlt hg1 hW1 hb (rf:=zB0 (bkN ρ h.n)) (fun hS bk _ _ _ _ h ho=>jY1 hS bk h ho) jZ1 hos'
         cases e with
         | panic v =>
          simp only
          split
          ·trivial
          ·rename_i v' hv'
           obtain ⟨u,todo,hR,hst⟩:=hA
           exact ⟨_,a1,w1,q1,q2,FrOkP.rn0 hF h4,u,todo,yE0 (g:=g1) (g':=g.merge ρ h.n g1) rfl q3 8 hR hv',hst⟩
         | goto _=>exact hA.elim
         | normal =>
          simp only
          split
          ·trivial
          ·rename_i L hL
           exact ⟨_,a1,w1,q1,q2,FrOk.rn (g':=g.merge ρ h.n g1) hF rfl q3 hL h4,hA⟩
         | exit i =>
          simp only
          split
          ·trivial
          ·rename_i L hL
           exact ⟨_,a1,w1,q1,q2,FrOk.rn (g':=g.merge ρ h.n g1) hF rfl q3 hL h4,hA⟩
         | ret =>
          simp only
          split
          ·trivial
          ·rename_i L hL
           exact ⟨_,a1,w1,q1,q2,FrOk.rn (g':=g.merge ρ h.n g1) hF rfl q3 hL h4,hA⟩
def qk0 (C:Cf) (ih0 ih:Task→Res) (t:Task):Res :=
 match t with
 | .call f args h=>bif C.inl f then ih (.call f args h) else YG0 ih0 ih f (C.na f args) h
 | .code c fr h=>(match c with
  | .loop b=>bif C.unr fr.fn b h.n then ih (.code (.loop b) (wkF (C.live fr.fn b) fr) h) else bif C.lf fr.fn then jW0 ih0 (C.live fr.fn b) (ZL0 h (C.live fr.fn b) fr) b fr h else ih0 (.code (.loop b) (wkF (C.live fr.fn b) fr) (zl0 h))
  | c=>ih (.code c fr h))
 | t=>ih t
def inn (P:Program) (E:Env) (C:Cf) (ih0:Task→Res) (m:Nat):Task→Res:=Nat.rec (fun _=>.none 0 none) (fun _ ih=>Ka0 P E C (qk0 C ih0 ih)) m
def finT (C:Cf) (t:Task) (r:Res):Res :=
 match t with
 | .call f _ h=>finC C f h.n r
 | .code c fr h=>(match c with
  | .loop b=>loopF h.n (C.live fr.fn b) r
  | _=>r)
 | _=>r
def rn (P:Program) (E:Env) (C:Cf) (n:Nat):Task→Res:=Nat.rec (fun _=>.none 0 none) (fun _ ih t=>finT C t (inn P E C ih 64 t)) n
theorem Wks.rs {xs ys:List V} (h:Wks xs ys) {g:Gh} {us:Array Value} (hs:Rs' g us xs):Rs' g us ys:=by
 refine ⟨hs.1.trans h.1,fun i v y a c=>?_⟩
 obtain ⟨x,hx⟩:=qr0 xs i (by rw [h.1];exact qd0 c)
 exact h.2 i x y hx c g v (hs.2 i v x a hx)
theorem KL1 {C:Cf} {ih0 ih:Task→Res} (h0:Snd P E ih0) (h1:Snd P E ih):Snd P E (qk0 C ih0 ih) where
 prim:=h0.prim
 code:=fun {_ _ _ h _} c fr a b k cs hW hG hf=>by
  have key:∀ c',CodeOk P _ _ _ (lone (b.atR a (.code (.loop c')::k)) cs _) b k cs (bif C.unr fr.fn c' h.n then ih (.code (.loop c') (wkF (C.live fr.fn c') fr) h) else bif C.lf fr.fn then jW0 ih0 (C.live fr.fn c') (ZL0 h (C.live fr.fn c') fr) c' fr h else ih0 (.code (.loop c') (wkF (C.live fr.fn c') fr) (zl0 h))):=fun c'=>by
   cases C.unr fr.fn c' h.n with
   | true=>exact h1.code _ _ a b k cs hW hG (hf.wk _)
   | false =>
    cases C.lf fr.fn with
    | true=>exact yp1 (fun fr hW hG hf=>h0.code _ fr a b k cs hW hG hf) hW hG hf _ _
    | false=>exact h0.code _ _ a b k cs (Xc0 hW).1 hG (hf.wk _)
  cases c <;> first | exact h1.code _ fr a b k cs hW hG hf | exact key _
 loop:=fun {_ _ _ h _} c fr a b k cs hW hG hf=>by
  change CodeOk P _ _ _ _ b k cs (bif C.unr fr.fn c h.n then ih (.code (.loop c) (wkF (C.live fr.fn c) fr) h) else bif C.lf fr.fn then jW0 ih0 (C.live fr.fn c) (ZL0 h (C.live fr.fn c) fr) c fr h else ih0 (.code (.loop c) (wkF (C.live fr.fn c) fr) (zl0 h)))
  cases C.unr fr.fn c h.n with
  | true=>exact h1.loop c _ a b k cs hW hG (hf.wk _)
  | false =>
   cases C.lf fr.fn with
   | true=>exact yp1 (fun fr hW hG hf=>h0.loop c fr a b k cs hW hG hf) hW hG hf _ _
   | false=>exact h0.loop c _ a b k cs (Xc0 hW).1 hG (hf.wk _)
 dcall:=fun c cs f args us p hW hG hs hp=>h1.dcall c cs f args us p hW hG hs hp
 call:=fun cs f args us hW hG hs=>by
  change CallOk _ _ _ _ _ _ _ _ (bif C.inl f then _ else _)
  cases C.inl f with
  | true=>exact h1.call cs f args us hW hG hs
  | false=>exact Xa1 h0 h1 cs f (C.na f args) us hW hG ((C.naok f args).rs hs)
 yield:=fun c cs l b k args us hW hG hv hm hs=>h1.yield c cs l b k args us hW hG hv hm hs
theorem ju1 (hP:yr0 P E):Snd P E (fun _=>.none 0 none):=⟨hP,fun _ _ _ _ _ _ _ _ _=>trivial,fun _ _ _ _ _ _ _ _ _=>trivial,fun _ _ _ _ _ _ _ _ _ _=>trivial,fun _ _ _ _ _ _ _=>trivial,fun _ _ _ _ _ _ _ _ _ _ _ _=>trivial⟩
theorem yG1 {C:Cf} {ih:Task→Res} (h:Snd P E ih):Snd P E (ihL C ih) where
 prim:=h.prim
 code:=fun c fr a b k cs hW hG hf=>(h.code c fr a b k cs hW hG hf).loopR hW.domain
 loop:=fun c fr a b k cs hW hG hf=>(h.loop c fr a b k cs hW hG hf).loopR hW.domain
 dcall:=fun c cs f args us p hW hG hs hp=>h.dcall c cs f args us p hW hG hs hp
 call:=fun cs f args us hW hG hs=>h.call cs f args us hW hG hs
 yield:=fun c cs l b k args us hW hG hv hm hs=>h.yield c cs l b k args us hW hG hv hm hs
theorem zF2 (hN:yq0 P) {C:Cf} {ih:Task→Res} (IH:Snd P E ih):Snd P E (Ka0 P E C ih) :=
 ⟨IH.prim,fun c fr a b k cs hW hG hf=>by
  cases c with
  | region id ops draw =>
   cases draw with
   | true=>exact JI0 IH _ fr a b k cs hW hG hf
   | false=>exact qt2 IH hW hG hf
  | loop c=>exact JI0 (yG1 (C:=C) IH) _ fr a b k cs hW hG hf
  | _=>exact JI0 IH _ fr a b k cs hW hG hf,fun c fr a b k cs hW hG hf=>jf1 (yG1 (C:=C) IH) c fr a b k cs hW hG hf,
  fun c cs f args us p hW hG hs hp=>zi1 IH hN c cs f args us p hW hG hs hp,fun cs f args us hW hG hs=>zd1 IH hN cs f args us hW hG hs,fun c cs l b k args us hW hG hv hm hs=>QP1 IH c cs l b k args us hW hG hv hm hs⟩
theorem XB1 (hN:yq0 P) {C:Cf} {ih0:Task→Res} (h0:Snd P E ih0) (m:Nat):Snd P E (inn P E C ih0 m):=by
 induction m with
 | zero=>exact ju1 h0.prim
 | succ m IH=>exact zF2 hN (KL1 h0 IH)
theorem JP1 {C:Cf} {ih:Task→Res} (h:Snd P E ih):Snd P E (fun t=>finT C t (ih t)) where
 prim:=h.prim
 code:=fun c fr a b k cs hW hG hf=>by
  have q:=h.code c fr a b k cs hW hG hf
  cases c <;> first | exact q | exact q.loopF hW.domain
 loop:=fun c fr a b k cs hW hG hf=>(h.loop c fr a b k cs hW hG hf).loopF hW.domain
 dcall:=fun c cs f args us p hW hG hs hp=>h.dcall c cs f args us p hW hG hs hp
 call:=fun cs f args us hW hG hs=>JN1 hW.domain (h.call cs f args us hW hG hs)
 yield:=fun c cs l b k args us hW hG hv hm hs=>h.yield c cs l b k args us hW hG hv hm hs
theorem rn_snd (hN:yq0 P) (hP:yr0 P E) {C:Cf} (n:Nat):Snd P E (rn P E C n):=by
 induction n with
 | zero=>exact ju1 hP
 | succ n IH=>exact JP1 (C:=C) (XB1 hN IH 64)
def yL0:Code→Option Nat
 | .region id _ _=>some id
 | .seq a b=>(match yL0 a with
  | some i=>some i
  | none=>yL0 b)
 | .cond _ a b=>(match yL0 a with
  | some i=>some i
  | none=>yL0 b)
 | .block _ b=>yL0 b
 | .loop b=>yL0 b
 | .rangeFunc _ _ a _=>yL0 a
 | .scope b=>yL0 b
 | _=>none
def need {β:Type} (bot:β) (φ:Prop) (x:β):β:=@ite β φ (Classical.propDecidable φ) x bot
def needs {β:Type} (bot:β) (φs:List Prop) (x:β):β:=List.rec x (fun φ _ ih=>need bot φ ih) φs
theorem QU0 {β:Type} {bot:β} {φ:Prop} {x:β}:need bot φ x=bot∨(φ∧need bot φ x=x):=by
 unfold need
 by_cases h:φ
 ·rw [if_pos h];exact .inr ⟨h,rfl⟩
 ·rw [if_neg h];exact .inl rfl
theorem KQ1 {β:Type} {bot:β} {φs:List Prop} {x:β}:needs bot φs x=bot∨(jB0 φs∧needs bot φs x=x):=by
 induction φs with
 | nil=>exact .inr ⟨trivial,rfl⟩
 | cons φ l IH =>
  change need bot φ (needs bot l x)=bot∨(jB0 (φ::l)∧need bot φ (needs bot l x)=x)
  rcases QU0 (bot:=bot) (φ:=φ) (x:=needs bot l x) with h | ⟨h1,h2⟩
  ·exact .inl h
  ·rw [h2]
   rcases IH with h | ⟨h3,h4⟩
   ·exact .inl h
   ·exact .inr ⟨⟨h1,h3⟩,h4⟩
def GndR (es:List V):Prop:=∀ e,e∈es→qA0 (ground 3) e.cells=true
def zs0:Obj→List V
 | .row _ _ _ _ _ es=>es
 | .rowS _ _ _ _ l _=>l
 | _=>[]
def flg (C:Cf) (o:Obj):Bool :=
 match o with
 | .row _ ty _ _ cap _=>bif qJ0 cap then C.drow ty else false
 | .rowS _ _ _ _ _ _=>true
 | _=>false
def jS0 (C:Cf) (h:Heap):List Prop:=List.rec [] (fun r _ ih=>bif flg C (h.get r) then GndR (zs0 (h.get r))::ih else ih) (qR0 h.n 0)
def jC0 (C:Cf) (h:Heap):Prop:=∀ r,r<h.n→flg C (h.get r)=true→GndR (zs0 (h.get r))
theorem ZB0 {C:Cf} {h:Heap} (ha:jB0 (jS0 C h)):jC0 C h:=by
 have key:∀ (l:List Nat),jB0 (List.rec (motive:=fun _=>List Prop) [] (fun r _ ih=>bif flg C (h.get r) then GndR (zs0 (h.get r))::ih else ih) l)→∀ r,r∈l→flg C (h.get r)=true→GndR (zs0 (h.get r)):=by
  intro l
  induction l with
  | nil=>intro _ r hr;cases hr
  | cons q l IH =>
   intro ha r hr hf
   change jB0 (bif flg C (h.get q) then GndR (zs0 (h.get q))::_ else _) at ha
   rcases List.mem_cons.1 hr with rfl | hr
   ·rw [hf] at ha;exact ha.1
   ·cases hq:flg C (h.get q) with
    | true=>rw [hq] at ha;exact IH ha.2 r hr hf
    | false=>rw [hq] at ha;exact IH ha r hr hf
 intro r hr hf
 refine key _ ha r ?_ hf
 have:=Xj0 h.n 0 r hr
 rw [Nat.zero_add] at this
 exact List.mem_of_getElem? this
theorem yy1 (k:Nat):∀ {v:V} {d:Nat},ground k v=true→qp0 d v=[]:=by
 have cat:∀ {α:Type} (f:α→List Nat) (l:List α),(∀ x,x∈l→f x=[])→qq0 f l=[]:=by
  intro α f l h
  induction l with
  | nil=>rfl
  | cons x l IH =>
   change List.app (f x) (qq0 f l)=[]
   rw [h x (by simp),IH (fun y hy=>h y (by simp [hy]))];rfl
 induction k with
 | zero=>intro v d h;cases h
 | succ k IH =>
  intro v d h
  cases d with
  | zero=>rfl
  | succ d =>
   cases v with
   | agg vs=>exact cat _ _ fun x hx=>IH ((qQ0 _ _).1 h x hx)
   | iface t x=>exact IH (v:=x) h
   | func f a b =>
    cases f with
    | func g =>
     change (bif qA0 (ground k) a then qA0 (ground k) b else false)=true at h
     cases ha:qA0 (ground k) a with
     | false=>rw [ha] at h;cases h
     | true =>
      rw [ha] at h
      change List.app (qq0 (qp0 d) a) (qq0 (qp0 d) b)=[]
      rw [cat (qp0 d) a fun x hx=>IH ((qQ0 _ _).1 ha x hx),cat (qp0 d) b fun x hx=>IH ((qQ0 _ _).1 h x hx)];rfl
    | _=>cases h
   | tup=>cases h
   | ptr=>cases h
   | sl=>cases h
   | map=>cases h
   | iter=>cases h
   | _=>rfl
theorem YQ0 {α:Type} {f:α→Option α} (l:List α) (h:∀ x,x∈l→f x=some x):qc0 f l=some l:=by
 induction l with
 | nil=>rfl
 | cons x l IH =>
  rw [yA0,h x (by simp),IH (fun y hy=>h y (by simp [hy]))]
theorem yz1 (k:Nat):∀ {v:V} {d:Nat} {f:Nat→Option Nat},k≤d→ground k v=true→rnV f d v=some v:=by
 induction k with
 | zero=>intro v d f _ h;cases h
 | succ k IH =>
  intro v d f hd h
  obtain ⟨d,rfl⟩:∃ d',d=d'+1:=⟨d-1,by omega⟩
  have hd:k≤d:=by omega
  cases v with
  | agg vs =>
   change (match qc0 (rnV f d) vs with | some l=>some (V.agg l) | none=>none)=_
   rw [YQ0 vs fun x hx=>IH hd ((qQ0 _ _).1 h x hx)]
  | iface t x =>
   change (match rnV f d x with | some y=>some (V.iface t y) | none=>none)=_
   rw [IH hd (v:=x) h]
  | func g a b =>
   cases g with
   | func g =>
    change (bif qA0 (ground k) a then qA0 (ground k) b else false)=true at h
    cases ha:qA0 (ground k) a with
    | false=>rw [ha] at h;cases h
    | true =>
     rw [ha] at h
     change (match qc0 (rnV f d) a with | some a'=>(match qc0 (rnV f d) b with | some b'=>some (V.func (.func g) a' b') | none=>none) | none=>none)=_
     rw [YQ0 a fun x hx=>IH hd ((qQ0 _ _).1 ha x hx),YQ0 b fun x hx=>IH hd ((qQ0 _ _).1 h x hx)]
   | _=>cases h
  | tup=>cases h
  | ptr=>cases h
  | sl=>cases h
  | map=>cases h
  | iter=>cases h
  | fsl=>cases h
  | imod=>cases h
  | any=>cases h
  | _=>rfl
theorem Xn1 {cs:List V} (he:qA0 (ground 3) cs=true):qq0 (qp0 7) cs=[]:=by
 induction cs with
 | nil=>rfl
 | cons c cs IH =>
  have h2:=(qQ0 _ _).1 he
  change List.app (qp0 7 c) (qq0 (qp0 7) cs)=[]
  rw [yy1 3 (h2 c (by simp)),IH ((qQ0 _ _).2 fun x hx=>h2 x (by simp [hx]))];rfl
theorem GndR.refs {es:List V} (h:GndR es):qq0 (qp0 8) es=[]:=by
 induction es with
 | nil=>rfl
 | cons e l IH =>
  change List.app (qp0 8 e) (qq0 (qp0 8) l)=[]
  rw [IH (fun x hx=>h x (by simp [hx]))]
  have he:=h e (by simp)
  have:qp0 8 e=[]:=by
   cases e with
   | agg cs =>
    change qq0 (qp0 7) cs=[]
    exact Xn1 he
   | _=>exact yy1 3 ((qQ0 _ _).1 he _ (by simp [V.cells]))
  rw [this];rfl
theorem GndR.rn {es:List V} (h:GndR es) (f:Nat→Option Nat):qc0 (rnV f 8) es=some es:=by
 refine YQ0 es fun e he=>?_
 have he:=h e he
 cases e with
 | agg cs =>
  change (match qc0 (rnV f 7) cs with | some l=>some (V.agg l) | none=>none)=_
  rw [YQ0 cs fun x hx=>yz1 3 (by omega) ((qQ0 _ _).1 he x hx)]
 | _=>exact yz1 3 (by omega) ((qQ0 _ _).1 he _ (by simp [V.cells]))
section
variable (C:Cf)
def hid (h:Heap) (r:Nat):Bool:=Nat.blt r h.n&&flg C (h.get r)
def refsX (o:Obj):List Nat :=
 match o with
 | .rowS _ _ _ _ _ x=>qp0 8 x
 | _=>[]
def rnX (f:Nat→Option Nat) (o:Obj):Option Obj :=
 match o with
 | .rowS ver ty sz pub l x=>(match rnV f 8 x with
  | some x'=>some (.rowS ver ty sz pub l x')
  | none=>none)
 | o=>some o
def jv0 (h:Heap) (r:Nat):List Nat:=bif hid C h r then refsX (h.get r) else Zb0 (h.get r)
def rnH (h:Heap) (f:Nat→Option Nat) (r:Nat):Option Obj:=bif hid C h r then rnX f (h.get r) else rnO f (h.get r)
def qZ0 (h:Heap) (fuel:Nat):List Nat→List Nat→List Nat :=
 Nat.rec (motive:=fun _=>List Nat→List Nat→List Nat) (fun _ seen=>seen) (fun _ ih todo seen=>match todo with
  | []=>seen
  | r::t=>bif qB0 r seen then ih t seen else ih (List.app t (jv0 C h r)) (List.app seen [r])) fuel
def fgtH (o:Obj):Obj :=
 match o with
 | .row ver ty sz pub cap es=>.row ver ty sz pub cap (bif Nat.beq pub 0 then [] else List.takeN es pub)
 | .rowS ver ty sz pub l x=>bif !(Nat.beq pub 0) then .rowS ver ty sz pub l x else .row ver ty sz 0 none []
 | o=>o
def frgH (h:Heap) (f:Nat→Option Nat) (ls:List Nat) (r:Nat):Option Obj:=bif hid C h r then (bif qB0 r ls then rnX f (h.get r) else rnX f (fgtH (h.get r))) else zB0 f (zY0 (fgt (qB0 r ls) (h.get r)))
end
section
variable {C:Cf} {h:Heap}
theorem Xf0 {r:Nat} (q:hid C h r=true) (hg:GndR (zs0 (h.get r))):(∃ ver ty sz pub es,h.get r=.row ver ty sz pub none es∧GndR es)∨∃ ver ty sz pub l x,h.get r=.rowS ver ty sz pub l x∧GndR l:=by
 unfold hid at q
 simp only [Bool.and_eq_true,Nat.blt_eq] at q
 cases ho:h.get r with
 | row ver ty sz pub cap es =>
  rw [ho] at hg q
  cases cap with
  | none=>exact .inl ⟨ver,ty,sz,pub,es,rfl,hg⟩
  | some c=>cases q.2
 | rowS ver ty sz pub l x=>rw [ho] at hg;exact .inr ⟨ver,ty,sz,pub,l,x,rfl,hg⟩
 | _=>rw [ho] at q;cases q.2
theorem jU1 {r:Nat} (hg:hid C h r=true→GndR (zs0 (h.get r))):jv0 C h r=Zb0 (h.get r):=by
 unfold jv0
 cases q:hid C h r with
 | false=>rfl
 | true =>
  rcases Xf0 q (hg q) with ⟨_,_,_,_,es,e,hg⟩ | ⟨_,_,_,_,l,x,e,_⟩
  ·rw [e]
   exact hg.refs.symm
  ·rw [e];rfl
theorem Qb1 {f:Nat→Option Nat} {r:Nat} (q:hid C h r=true) (hg:GndR (zs0 (h.get r))):rnX f (h.get r)=rnO f (h.get r):=by
 rcases Xf0 q hg with ⟨_,_,_,_,es,e,hg⟩ | ⟨_,_,_,_,l,x,e,hg⟩
 ·rw [e]
  unfold rnX rnO
  simp only
  rw [hg.rn]
 ·rw [e]
  unfold rnX rnO
  simp only
  rw [hg.rn]
  try rfl
theorem GY0 {f:Nat→Option Nat} {r:Nat} (hg:hid C h r=true→GndR (zs0 (h.get r))):rnH C h f r=rnO f (h.get r):=by
 unfold rnH
 cases q:hid C h r with
 | false=>rfl
 | true=>exact Qb1 q (hg q)
end
section
variable {C:Cf} {h:Heap} (hh:jC0 C h)
 include hh
theorem YJ0 {r:Nat} (q:hid C h r=true):GndR (zs0 (h.get r)):=by
 have q':=q
 unfold hid at q'
 simp only [Bool.and_eq_true,Nat.blt_eq] at q'
 exact hh r q'.1 q'.2
theorem qs2 (r:Nat):jv0 C h r=Zb0 (h.get r):=jU1 (YJ0 hh)
theorem rnH_eq (f:Nat→Option Nat) (r:Nat):rnH C h f r=rnO f (h.get r):=GY0 (YJ0 hh)
theorem XJ0 (fuel:Nat):∀ todo seen,qZ0 C h fuel todo seen=qY0 h fuel todo seen:=by
 induction fuel with
 | zero=>intro todo seen;rfl
 | succ n IH =>
  intro todo seen
  cases todo with
  | nil=>rfl
  | cons r t =>
   change (bif qB0 r seen then qZ0 C h n t seen else qZ0 C h n (List.app t (jv0 C h r)) (List.app seen [r]))=(bif qB0 r seen then qY0 h n t seen else qY0 h n (List.app t (Zb0 (h.get r))) (List.app seen [r]))
   rw [IH,IH,qs2 hh]
 omit hh in theorem GndR.take {es:List V} (hg:GndR es) (n:Nat):GndR (List.takeN es n):=fun e he=>hg e (by rw [List.takeN_eq] at he;exact List.mem_of_mem_take he)
theorem Xb1 (f:Nat→Option Nat) (ls:List Nat) (r:Nat):frgH C h f ls r=zB0 f (zY0 (fgt (qB0 r ls) (h.get r))):=by
 unfold frgH
 cases q:hid C h r with
 | false=>rfl
 | true =>
  simp only [cond_true]
  rcases Xf0 q (YJ0 hh q) with ⟨ver,ty,sz,pub,es,e,hg⟩ | ⟨ver,ty,sz,pub,l,x,e,hg⟩
  ·rw [e]
   cases qB0 r ls with
   | true =>
    change some (Obj.row ver ty sz pub none es)=zB0 f (.row ver ty sz pub none es)
    unfold zB0 rnO
    simp only
    rw [hg.rn]
   | false =>
    change some (fgtH (.row ver ty sz pub none es))=zB0 f (.row ver ty sz pub none (List.takeN es pub))
    have e1:(bif Nat.beq pub 0 then [] else List.takeN es pub)=List.takeN es pub:=by
     cases hp:Nat.beq pub 0 with
     | false=>rfl
     | true =>
      rw [Nat.beq_eq] at hp
      subst hp
      rw [List.takeN_eq];rfl
    unfold fgtH zB0 rnO
    simp only [e1]
    rw [(hg.take pub).rn]
  ·rw [e]
   have hS:rnX f (.rowS ver ty sz pub l x)=zB0 f (.rowS ver ty sz pub l x):=by
    unfold rnX zB0 rnO
    simp only
    rw [hg.rn]
    try rfl
   cases qB0 r ls with
   | true=>exact hS
   | false =>
    unfold fgtH fgt
    simp only [cond_false,Bool.false_or]
    cases hp:!(Nat.beq pub 0) with
    | true=>exact hS
    | false=>rfl
end
def ZC0 (C:Cf) (h:Heap) (ρ:List Nat):List Prop:=List.rec [] (fun r _ ih=>bif hid C h r then GndR (zs0 (h.get r))::ih else ih) ρ
def HidR (C:Cf) (h:Heap) (ρ:List Nat):Prop:=∀ r,r∈ρ→hid C h r=true→GndR (zs0 (h.get r))
theorem KU0 {C:Cf} {h:Heap} (ρ:List Nat) (ha:jB0 (ZC0 C h ρ)):HidR C h ρ:=by
 induction ρ with
 | nil=>intro r hr;cases hr
 | cons q l IH =>
  intro r hr hf
  change jB0 (bif hid C h q then GndR (zs0 (h.get q))::ZC0 C h l else ZC0 C h l) at ha
  rcases List.mem_cons.1 hr with rfl | hr
  ·rw [hf] at ha;exact ha.1
  ·cases hq:hid C h q with
   | true=>rw [hq] at ha;exact IH ha.2 r hr hf
   | false=>rw [hq] at ha;exact IH ha r hr hf
section
variable {C:Cf} {h:Heap}
theorem qq2 (fuel:Nat):∀ todo seen r,r∈seen→r∈qZ0 C h fuel todo seen:=by
 induction fuel with
 | zero=>intro todo seen r hr;exact hr
 | succ n IH =>
  intro todo seen r hr
  cases todo with
  | nil=>exact hr
  | cons q t =>
   change r∈(bif qB0 q seen then qZ0 C h n t seen else qZ0 C h n (List.app t (jv0 C h q)) (List.app seen [q]))
   cases qB0 q seen with
   | true=>exact IH _ _ _ hr
   | false=>exact IH _ _ _ (by rw [List.app_eq];simp [hr])
theorem jT1 (fuel:Nat):∀ todo seen,HidR C h (qZ0 C h fuel todo seen)→qZ0 C h fuel todo seen=qY0 h fuel todo seen:=by
 induction fuel with
 | zero=>intro todo seen _;rfl
 | succ n IH =>
  intro todo seen hh
  cases todo with
  | nil=>rfl
  | cons q t =>
   change HidR C h (bif qB0 q seen then qZ0 C h n t seen else qZ0 C h n (List.app t (jv0 C h q)) (List.app seen [q])) at hh
   change (bif qB0 q seen then qZ0 C h n t seen else qZ0 C h n (List.app t (jv0 C h q)) (List.app seen [q]))=(bif qB0 q seen then qY0 h n t seen else qY0 h n (List.app t (Zb0 (h.get q))) (List.app seen [q]))
   cases hm:qB0 q seen with
   | true =>
    rw [hm] at hh
    exact IH _ _ hh
   | false =>
    rw [hm] at hh
    simp only [cond_false] at hh ⊢
    have hq:jv0 C h q=Zb0 (h.get q):=jU1 (hh q (qq2 _ _ _ _ (by rw [List.app_eq];simp)))
    rw [hq] at hh ⊢
    exact IH _ _ hh
theorem jj1 {f g:Nat→Option Obj} {ρ:List Nat} (hf:∀ r,r∈ρ→f r=g r):qc0 f ρ=qc0 g ρ:=by
 induction ρ with
 | nil=>rfl
 | cons r l IH=>rw [yA0,yA0,hf r (by simp),IH fun q hq=>hf q (by simp [hq])]
end
section
variable {β:Type}
def JW0 (v:V) (k:V→β):β :=
 match v with
 | .int a b=>k (.int a b)
 | .bool b=>k (.bool b)
 | .str s=>k (.str s)
 | .nilp=>k .nilp
 | .ptr a b c=>k (.ptr a b c)
 | .gptr a b c=>k (.gptr a b c)
 | .nils=>k .nils
 | .sl a b c d e=>k (.sl a b c d e)
 | .gsl a b c=>k (.gsl a b c)
 | .fsl a b c d e=>k (.fsl a b c d e)
 | .nilm=>k .nilm
 | .map r=>k (.map r)
 | .iter r=>k (.iter r)
 | .func f a b=>k (.func f a b)
 | .nilf=>k .nilf
 | .nili=>k .nili
 | .iface t v=>k (.iface t v)
 | .agg vs=>k (.agg vs)
 | .tup vs=>k (.tup vs)
 | .any=>k .any
 | .imod a b c=>k (.imod a b c)
 | .osl a b=>k (.osl a b)
 | .gmap a b=>k (.gmap a b)
theorem yo1 (v:V) (k:V→β):JW0 v k=k v:=by cases v <;> rfl
def KV0 (l:List V):(List V→β)→β:=List.rec (motive:=fun _=>(List V→β)→β) (fun k=>k []) (fun v _ ih k=>JW0 v (fun v=>ih (fun l=>k (v::l)))) l
theorem JY1 (l:List V):∀ (k:List V→β),KV0 l k=k l:=by
 induction l with
 | nil=>intro k;rfl
 | cons v l IH =>
  intro k
  change JW0 v (fun v=>KV0 l (fun l=>k (v::l)))=_
  rw [yo1,IH]
def JV0 (v:V) (k:V→β):β :=
 match v with
 | .agg vs=>KV0 vs (fun l=>k (.agg l))
 | v=>JW0 v k
theorem JX1 (v:V) (k:V→β):JV0 v k=k v:=by
 unfold JV0
 split
 ·exact JY1 _ _
 ·exact yo1 _ k
def XZ0 (f:V→(V→β)→β) (l:List V):(List V→β)→β :=
 List.rec (motive:=fun _=>(List V→β)→β) (fun kk=>kk []) (fun v _ ih kk=>f v (fun v'=>ih (fun l'=>kk (v'::l')))) l
def qr1 (d:Nat):V→(V→β)→β :=
 Nat.rec (motive:=fun _=>V→(V→β)→β) (fun v kk=>kk v) (fun _ ih v kk=>match v with
  | .bool b=>Bool.rec (kk (.bool false)) (kk (.bool true)) b
  | .agg vs=>XZ0 ih vs (fun l=>kk (.agg l))
  | .tup vs=>XZ0 ih vs (fun l=>kk (.tup l))
  | v=>kk v) d
end
section split
variable {β:Type}
theorem Qy1 {f:V→(V→β)→β} (hf:∀ v kk,f v kk=kk v) (l:List V):∀ kk,XZ0 f l kk=kk l:=by
 induction l with
 | nil=>intro kk;rfl
 | cons v l IH =>
  intro kk
  change f v (fun v'=>XZ0 f l (fun l'=>kk (v'::l')))=kk (v::l)
  rw [hf,IH]
theorem qs1 (d:Nat):∀ (v:V) (kk:V→β),qr1 d v kk=kk v:=by
 induction d with
 | zero=>intro v kk;rfl
 | succ d IH =>
  intro v kk
  cases v with
  | bool b=>cases b <;> rfl
  | agg vs=>exact Qy1 IH vs _
  | tup vs=>exact Qy1 IH vs _
  | _=>rfl
end split
section
variable (C:Cf) {β:Type} (bot:β)
def XA0 (h:Heap) (ρ:List Nat) (h1:Heap) (v:V) (k:V→Heap→Res):Res :=
 bif Nat.ble (List.len ρ) h1.n then
  (match qc0 (fun j=>rnH C h1 (bkN ρ h.n) j) (qR0 h1.n 0) with
  | none=>.none 0 none
  | some os=>match rnV (bkN ρ h.n) 8 v with
   | none=>.none 0 none
   | some v'=>k v' (zt0 ρ os h))
 else .none 0 none
def outK (h:Heap) (ρ:List Nat) (k:Res→β) (r:Res):β :=
 match r with
 | .ret v h1=>needs bot (jS0 C h1) (k (XA0 C h ρ h1 v (fun v h2=>.ret v h2)))
 | .panic v h1=>needs bot (jS0 C h1) (k (XA0 C h ρ h1 v (fun v h2=>.panic v h2)))
 | .none a b=>k (.none a b)
 | _=>k (.none 0 none)
def zu0 (N:Nat) (h1:Heap) (vs:List V):List Nat:=qZ0 C h1 80 (List.app (qR0 N 0) (qq0 (qp0 8) vs)) []
def gcVH (N:Nat) (h1:Heap) (v:V) (k:V→Heap→Res):Res :=
 match rnV (ql0 (zu0 C N h1 [v])) 8 v with
 | none=>k v h1
 | some v'=>match qc0 (fun r=>rnH C h1 (ql0 (zu0 C N h1 [v])) r) (zu0 C N h1 [v]) with
  | none=>k v h1
  | some os=>bif okR h1.n (zu0 C N h1 [v])&&yO0 N (zu0 C N h1 [v]) then k v' (hp os) else k v h1
def gcK (N:Nat) (k:Res→β) (r:Res):β :=
 match r with
 | .ret v h1=>needs bot (ZC0 C h1 (zu0 C N h1 [v])) (k (gcVH C N h1 v (fun v h2=>.ret v h2)))
 | .panic v h1=>needs bot (ZC0 C h1 (zu0 C N h1 [v])) (k (gcVH C N h1 v (fun v h2=>.panic v h2)))
 | r=>k r
def YM0 (h1:Heap) (ρ ls:List Nat):Option (List Obj):=qc0 (fun r=>frgH C h1 (ql0 ρ) ls r) ρ
def gcFH (N:Nat) (L:List (Nat×V)) (e:Ex) (fr:Fr) (h1:Heap):Res :=
 match qc0 (rnL (ql0 (zu0 C N h1 (qN0 L)))) L with
 | none=>.code e (fr.on L) h1
 | some L'=>match YM0 C h1 (zu0 C N h1 (qN0 L)) (qZ0 C h1 80 (List.app (Za0 h1) (qq0 (qp0 8) (qN0 L))) []) with
  | none=>.code e (fr.on L) h1
  | some os=>bif okR h1.n (zu0 C N h1 (qN0 L))&&yO0 N (zu0 C N h1 (qN0 L))&&qb0 fr.marks&&qb0 fr.defers&&qJ0 fr.round then .code e (fr.on L') (hp os) else .code e (fr.on L) h1
def gcPH (N:Nat) (L:List (Nat×V)) (v:V) (fr:Fr) (h1:Heap):Res :=
 match rnV (ql0 (zu0 C N h1 (v::qN0 L))) 8 v with
 | none=>.code (.panic v) fr h1
 | some v'=>match YM0 C h1 (zu0 C N h1 (v::qN0 L)) (qZ0 C h1 80 (List.app (Za0 h1) (qq0 (qp0 8) (v::qN0 L))) []) with
  | none=>.code (.panic v) fr h1
  | some os=>bif okR h1.n (zu0 C N h1 (v::qN0 L))&&yO0 N (zu0 C N h1 (v::qN0 L))&&qb0 fr.marks&&qb0 fr.defers&&qJ0 fr.round then .code (.panic v') (fr.on []) (hp os) else .code (.panic v) fr h1
def rn2H (h:Heap) (f:Nat→Option Nat) (r:Nat):Option Obj:=bif hid C h r then rnX f (h.get r) else zB0 f (h.get r)
def GL0 (h:Heap) (ρ ks:List Nat) (e:Ex) (fr:Fr) (h1:Heap):Res :=
 bif Nat.ble (List.len ρ) h1.n&&(qb0 fr.marks&&qb0 fr.defers&&qJ0 fr.round) then
  (match qc0 (fun j=>rn2H C h1 (bkN ρ h.n) j) (qR0 h1.n 0) with
  | none=>.none 0 none
  | some os=>(match e with
   | .panic v=>(match rnV (bkN ρ h.n) 8 v with
    | none=>.none 0 none
    | some v'=>.code (.panic v') (fr.on []) (zt0 ρ os h))
   | e=>(match qc0 (rnL (bkN ρ h.n)) (qv0 fr ks) with
    | none=>.none 0 none
    | some L=>.code e (fr.on L) (zt0 ρ os h))))
  else .none 0 none
def outCK (h:Heap) (ρ ks:List Nat) (k:Res→β) (r:Res):β :=
 match r with
 | .code e fr h1=>needs bot (jS0 C h1) (k (GL0 C h ρ ks e fr h1))
 | .none a b=>k (.none a b)
 | _=>k (.none 0 none)
def ZP0 (N:Nat) (ks:Option (List Nat×List Nat×List Nat)) (k:Res→β) (r:Res):β :=
 match ks with
 | none=>k r
 | some ks=>match r with
  | .code e fr h1=>(match e with
   | .panic v=>needs bot (jS0 C h1) (k (gcPH C N (qv0 fr ks.2.2) v fr h1))
   | .normal=>needs bot (jS0 C h1) (k (gcFH C N (qv0 fr ks.1) .normal fr h1))
   | e=>needs bot (jS0 C h1) (k (gcFH C N (qv0 fr ks.2.1) e fr h1)))
  | r=>k r
def QY0 (d:Nat) (h:Heap) (v:V) (kk:Option (V×Heap)→β):β :=
 match v with
 | .sl r ver o n c=>bif hid C h r then (match h.get r with
  | .row ver' ty sz pb cap es=>need bot (ver=ver'∧o=0∧n=es.length∧GndR es) (kk (some (.gsl sz es (match c with | some c=>some c | none=>jz0 cap 0),h.set r (.row ver ty sz (Nat.max pb n) cap es))))
  | _=>kk (pub [] d h (.sl r ver o n c)))
  else kk (pub [] d h (.sl r ver o n c))
 | v=>kk (pub [] d h v)
def XE0 (d:Nat) (l:List V):Heap→(Option (List V×Heap)→β)→β :=
 List.rec (motive:=fun _=>Heap→(Option (List V×Heap)→β)→β) (fun h kk=>kk (some ([],h))) (fun v _ ih h kk=>QY0 C bot d h v (fun r=>match r with
  | none=>kk none
  | some (v',h1)=>ih h1 (fun r2=>match r2 with
   | none=>kk none
   | some (l',h2)=>kk (some (v'::l',h2))))) l
def GS0 (d:Nat) (h:Heap) (v:V) (kk:Option (V×Heap)→β):β :=
 match v with
 | .agg vs=>XE0 C bot d vs h (fun r=>kk (jb0 .agg r))
 | v=>QY0 C bot (Nat.succ d) h v kk
def XF0 (d:Nat) (l:List V):Heap→(Option (List V×Heap)→β)→β :=
 List.rec (motive:=fun _=>Heap→(Option (List V×Heap)→β)→β) (fun h kk=>kk (some ([],h))) (fun v _ ih h kk=>GS0 C bot d h v (fun r=>match r with
  | none=>kk none
  | some (v',h1)=>ih h1 (fun r2=>match r2 with
   | none=>kk none
   | some (l',h2)=>kk (some (v'::l',h2))))) l
def pubK (d:Nat) (h:Heap) (v:V) (kk:Option (V×Heap)→β):β :=
 match v with
 | .agg vs=>XF0 C bot d vs h (fun r=>kk (jb0 .agg r))
 | .tup vs=>XF0 C bot d vs h (fun r=>kk (jb0 .tup r))
 | v=>QY0 C bot (Nat.succ (Nat.succ d)) h v kk
def pubRK (f:FuncId) (k:Res→β) (r:Res):β :=
 match r with
 | .ret v h=>pubK C bot 38 h v (fun x=>match x with
  | some (v',h')=>k (.ret v' h')
  | .none=>k (.none f .none))
 | r=>k r
def Yf0 (f:FuncId) (h:Heap) (r:Nat) (kk:Heap→β):β:=match h.get r with
 | .rowS _ _ sz pb l x=>pubK C bot 38 h x (fun q=>match q with
  | some p=>(match p.2.get r with
   | .rowS ver ty sz' pb' _ _=>JV0 (C.nz f ty p.1) (fun v=>bif Nat.beq sz sz'&&Nat.beq pb pb'&&v.flat then kk (p.2.set r (.rowS ver ty sz pb l v)) else kk h)
   | _=>kk h)
  | none=>kk h)
 | _=>kk h
def qn1 (f:FuncId) (l:List Nat):Heap→(Heap→β)→β:=List.rec (motive:=fun _=>Heap→(Heap→β)→β) (fun h kk=>kk h) (fun i _ ih h kk=>Yf0 C bot f h i (fun h=>qW0 (xpH h i) (fun h=>ih h kk))) l
def setRK (f:FuncId) (k:Res→β) (r:Res):β :=
 match r with
 | .ret v h=>qn1 C bot f (qR0 h.n 0) h (fun h=>k (.ret v h))
 | r=>k r
def KS0 (f:FuncId) (N:Nat) (k:Res→β) (r:Res):β:=Bool.rec (gcK C bot N k (Xv0 C f r)) (setRK C bot f (fun r=>pubRK C bot f (fun r=>gcK C bot N k (Xv0 C f r)) r) r) (C.pb f)
def Gw0 (N:Nat) (ks:Option (List Nat×List Nat×List Nat)) (k:Res→β) (r:Res):β:=bif Xk0 r then k r else ZP0 C bot N ks k r
def finK (t:Task) (k:Res→β) (r:Res):β :=
 match t with
 | .call f _ h=>KS0 C bot f h.n k r
 | .code c fr h=>(match c with
  | .loop b=>Gw0 C bot h.n (C.live fr.fn b) k r
  | _=>k r)
 | _=>k r
end
def Nr {β ρ:Type} (bot:β) (k:ρ→β) (e:β) (r:ρ):Prop:=e=bot∨e=k r
section nr
variable {β ρ σ:Type} {bot:β}
theorem Nr.self {k:ρ→β} {r:ρ}:Nr bot k (k r) r:=.inr rfl
theorem Nr.then {k:ρ→β} {k':σ→β} {e:β} {r:σ} {q:ρ} (h:Nr bot k' e r) (h2:Nr bot k (k' r) q):Nr bot k e q:=h.elim .inl fun e'=>by rw [e'];exact h2
theorem Nr.need {k:ρ→β} {e:β} {r:ρ} {φ:Prop} (h:φ→Nr bot k e r):Nr bot k (need bot φ e) r:=by
 rcases QU0 (bot:=bot) (φ:=φ) (x:=e) with q | ⟨q1,q2⟩
 ·exact .inl q
 ·rw [q2];exact h q1
theorem Nr.needs {k:ρ→β} {e:β} {r:ρ} {φs:List Prop} (h:jB0 φs→Nr bot k e r):Nr bot k (needs bot φs e) r:=by
 rcases KQ1 (bot:=bot) (φs:=φs) (x:=e) with q | ⟨q1,q2⟩
 ·exact .inl q
 ·rw [q2];exact h q1
end nr
section
variable {C:Cf} {β:Type} {bot:β}
theorem jE1 {h1:Heap} (hh:jC0 C h1) (h:Heap) (ρ:List Nat) (v:V) (k:V→Heap→Res):XA0 C h ρ h1 v k=Ql0 h ρ h1 v k:=by
 unfold XA0 Ql0
 rw [show (fun j=>rnH C h1 (bkN ρ h.n) j)=fun j=>rnO (bkN ρ h.n) (h1.get j) from funext fun j=>rnH_eq hh _ j]
 try rfl
theorem Gv1 (h:Heap) (ρ:List Nat) (k:Res→β) (r:Res):Nr bot k (outK C bot h ρ k r) (outR h ρ r):=by
 cases r with
 | ret v h1=>exact .needs fun q=>by rw [jE1 (ZB0 q)];exact .self
 | panic v h1=>exact .needs fun q=>by rw [jE1 (ZB0 q)];exact .self
 | _=>exact .self
theorem yT1 {h1:Heap} (hh:jC0 C h1) (N:Nat) (vs:List V):zu0 C N h1 vs=zg0 N h1 vs:=XJ0 hh _ _ _
theorem yu1 {h1:Heap} {N:Nat} {v:V} (hh:HidR C h1 (zu0 C N h1 [v])) (k:V→Heap→Res):gcVH C N h1 v k=gcV N h1 v k:=by
 have e:zu0 C N h1 [v]=zg0 N h1 [v]:=jT1 _ _ _ hh
 unfold gcVH gcV
 rw [e] at hh ⊢
 rw [jj1 (f:=fun r=>rnH C h1 (ql0 (zg0 N h1 [v])) r) (g:=fun r=>rnO (ql0 (zg0 N h1 [v])) (h1.get r)) fun r hr=>GY0 (hh r hr)]
 try rfl
theorem yt1 (N:Nat) (k:Res→β) (r:Res):Nr bot k (gcK C bot N k r) (gcR N r):=by
 cases r with
 | ret v h1=>exact .needs fun q=>by rw [yu1 (KU0 _ q)];exact .self
 | panic v h1=>exact .needs fun q=>by rw [yu1 (KU0 _ q)];exact .self
 | _=>exact .self
theorem Gl0 {h1:Heap} (hh:jC0 C h1) (ρ ls:List Nat):YM0 C h1 ρ ls=QR0 h1 ρ ls:=by
 unfold YM0 QR0
 rw [show (fun r=>frgH C h1 (ql0 ρ) ls r)=fun r=>zB0 (ql0 ρ) (zY0 (fgt (qB0 r ls) (h1.get r))) from funext fun j=>Xb1 hh _ _ j]
theorem Xh1 {h1:Heap} (hh:jC0 C h1) (N:Nat) (L:List (Nat×V)) (e:Ex) (fr:Fr):gcFH C N L e fr h1=gcF N L e fr h1:=by
 unfold gcFH gcF
 rw [yT1 hh,Gl0 hh,XJ0 hh]
 try rfl
theorem Xi1 {h1:Heap} (hh:jC0 C h1) (N:Nat) (L:List (Nat×V)) (v:V) (fr:Fr):gcPH C N L v fr h1=gcP N L v fr h1:=by
 unfold gcPH gcP
 rw [yT1 hh,Gl0 hh,XJ0 hh]
 try rfl
theorem qD2 {h1:Heap} (hh:jC0 C h1) (f:Nat→Option Nat) (r:Nat):rn2H C h1 f r=zB0 f (h1.get r):=by
 unfold rn2H
 cases q:hid C h1 r with
 | false=>rfl
 | true =>
  simp only [cond_true]
  rw [Qb1 q (YJ0 hh q)]
  rcases Xf0 q (YJ0 hh q) with ⟨_,_,_,_,es,e,_⟩ | ⟨_,_,_,_,l,x,e,_⟩ <;> rw [e] <;> rfl
theorem Gu1 (h:Heap) (ρ ks:List Nat) (k:Res→β) (r:Res):Nr bot k (outCK C bot h ρ ks k r) (outC h ρ ks r):=by
 cases r with
 | code e fr h1 =>
  refine .needs fun q=>?_
  have e1:GL0 C h ρ ks e fr h1=outC h ρ ks (.code e fr h1):=by
   unfold GL0 outC
   rw [show (fun j=>rn2H C h1 (bkN ρ h.n) j)=fun j=>zB0 (bkN ρ h.n) (h1.get j) from funext fun j=>qD2 (ZB0 q) _ j]
   try rfl
  rw [e1];exact .self
 | _=>exact .self
theorem Gx0 (N:Nat) (ks:Option (List Nat×List Nat×List Nat)) (k:Res→β) (r:Res):Nr bot k (ZP0 C bot N ks k r) (loopR N ks r):=by
 cases ks with
 | none=>exact .self
 | some ks =>
  cases r with
  | code e fr h1 =>
   cases e with
   | panic v=>exact .needs fun q=>by rw [Xi1 (ZB0 q)];exact .self
   | _=>exact .needs fun q=>by rw [Xh1 (ZB0 q)];exact .self
  | _=>exact .self
theorem yx1 (k:Nat):∀ {v:V} {d:Nat} {seen:List Nat} {h:Heap},k≤d→ground k v=true→pub seen d h v=some (v,h):=by
 have lst:∀ {d:Nat} {seen:List Nat} (l:List V) (h:Heap),(∀ x,x∈l→∀ h,pub seen d h x=some (x,h))→qy0 (pub seen d) l h=some (l,h):=by
  intro d seen l
  induction l with
  | nil=>intro h _;rfl
  | cons x l IH =>
   intro h hx
   change (match pub seen d h x with
    | none=>none
    | some (v',h1)=>match qy0 (pub seen d) l h1 with
     | none=>none
     | some (l',h2)=>some (v'::l',h2))=_
   rw [hx x (by simp)]
   simp only
   rw [IH h fun y hy=>hx y (by simp [hy])]
 induction k with
 | zero=>intro v d seen h _ hg;cases hg
 | succ k IH =>
  intro v d seen h hd hg
  obtain ⟨d,rfl⟩:∃ d',d=d'+1:=⟨d-1,by omega⟩
  have hd:k≤d:=by omega
  cases v with
  | agg vs =>
   change jb0 .agg (qy0 (pub seen d) vs h)=_
   rw [lst vs h fun x hx h=>IH hd ((qQ0 _ _).1 hg x hx)];rfl
  | iface t x =>
   change (match pub seen d h x with | some (x',h')=>some (V.iface t x',h') | none=>none)=_
   rw [IH hd (v:=x) hg]
  | func g a b =>
   cases g with
   | func g =>
    change (bif qA0 (ground k) a then qA0 (ground k) b else false)=true at hg
    cases ha:qA0 (ground k) a with
    | false=>rw [ha] at hg;cases hg
    | true =>
     rw [ha] at hg
     change Ja0 (.func g) (qy0 (pub seen d) b) (qy0 (pub seen d) a h)=_
     rw [lst a h fun x hx h=>IH hd ((qQ0 _ _).1 ha x hx)]
     change (match qy0 (pub seen d) b h with | some (b,h2)=>some (V.func (.func g) a b,h2) | none=>none)=_
     rw [lst b h fun x hx h=>IH hd ((qQ0 _ _).1 hg x hx)]
   | _=>cases hg
  | tup=>cases hg
  | ptr=>cases hg
  | sl=>cases hg
  | map=>cases hg
  | iter=>cases hg
  | fsl=>cases hg
  | imod=>cases hg
  | any=>cases hg
  | _=>rfl
theorem Xm1 {d:Nat} (hd:3≤d) {seen:List Nat} {cs:List V} (he:qA0 (ground 3) cs=true) (h:Heap):qy0 (AM.pub seen d) cs h=some (cs,h):=by
 induction cs with
 | nil=>rfl
 | cons c cs IH =>
  have h2:=(qQ0 _ _).1 he
  change (match AM.pub seen d h c with
   | none=>none
   | some (v',h1)=>match qy0 (AM.pub seen d) cs h1 with
    | none=>none
    | some (l',h2)=>some (v'::l',h2))=_
  rw [yx1 3 hd (h2 c (by simp))]
  simp only
  rw [IH ((qQ0 _ _).2 fun x hx=>h2 x (by simp [hx]))]
theorem GndR.pub {es:List V} (hg:GndR es) {d:Nat} (hd:4≤d) {seen:List Nat} (h:Heap):qy0 (pub seen d) es h=some (es,h):=by
 obtain ⟨d,rfl⟩:∃ d',d=d'+1:=⟨d-1,by omega⟩
 have one:∀ e,e∈es→∀ h,AM.pub seen (d+1) h e=some (e,h):=fun e he h=>by
  have he:=hg e he
  cases e with
  | agg cs =>
   change jb0 .agg (qy0 (AM.pub seen d) cs h)=_
   have he:qA0 (ground 3) cs=true:=he
   rw [Xm1 (by omega) he h];rfl
  | _=>exact yx1 3 (by omega) ((qQ0 _ _).1 he _ (by simp [V.cells]))
 clear hg
 induction es with
 | nil=>rfl
 | cons e l IH =>
  change (match AM.pub seen (d+1) h e with
   | none=>none
   | some (v',h1)=>match qy0 (AM.pub seen (d+1)) l h1 with
    | none=>none
    | some (l',h2)=>some (v'::l',h2))=_
  rw [one e (by simp)]
  simp only
  rw [IH fun x hx=>one x (by simp [hx])]
theorem GR0 {d:Nat} (hd:5≤d) (h:Heap) (v:V) (kk:Option (V×Heap)→β):Nr bot kk (QY0 C bot d h v kk) (pub [] d h v):=by
 cases v with
 | sl r ver o n c =>
  unfold QY0
  simp only
  cases q:hid C h r with
  | false=>exact .self
  | true =>
   simp only [cond_true]
   split
   ·rename_i ver' ty sz pb cap es hget
    refine .need fun ⟨e1,e2,e3,hg⟩=>?_
    subst e1;subst e2;subst e3
    obtain ⟨d,rfl⟩:∃ d',d=d'+1:=⟨d-1,by omega⟩
    have:AM.pub [] (d+1) h (.sl r ver 0 es.length c)=some (.gsl sz es (match c with | some c=>some c | none=>jz0 cap 0),h.set r (.row ver ty sz (Nat.max pb es.length) cap es)):=by
     change jt0 (AM.pub [] d) [] h r ver 0 es.length c=_
     unfold jt0
     rw [hget]
     have e0:(Nat.beq ver ver&&!(qB0 r [])&&Nat.ble (Nat.add 0 es.length) (List.len es))=true:=by
      have h1:Nat.beq ver ver=true:=by simp
      have h2:Nat.ble (Nat.add 0 es.length) (List.len es)=true:=by rw [Nat.ble_eq,List.len_eq];change 0+es.length≤es.length;omega
      rw [h1,h2];rfl
     simp only [e0,cond_true]
     have e3:List.takeN (List.dropN es 0) es.length=es:=by rw [List.takeN_eq,List.dropN_eq,List.drop_zero,List.take_length]
     rw [e3,hg.pub (by omega)]
     simp only
     rw [hget]
     simp only
     have h1:Nat.beq ver ver=true:=by simp
     rw [h1]
     simp only [cond_true]
     change some (V.gsl sz es _,h.set r (.row ver ty sz (Nat.max pb (0+es.length)) cap es))=_
     rw [Nat.zero_add]
     rfl
    rw [this]
    exact .self
   ·exact .self
 | _=>exact .self
theorem jO1 {d:Nat} (hd:5≤d) (l:List V):∀ (h:Heap) (kk:Option (List V×Heap)→β),Nr bot kk (XE0 C bot d l h kk) (qy0 (pub [] d) l h):=by
 induction l with
 | nil=>intro h kk;exact .self
 | cons v l IH =>
  intro h kk
  refine (GR0 (C:=C) hd h v (fun r=>match r with
   | none=>kk none
   | some (v',h1)=>XE0 C bot d l h1 (fun r2=>match r2 with
    | none=>kk none
    | some (l',h2)=>kk (some (v'::l',h2))))).then ?_
  change Nr bot kk _ (match pub [] d h v with
   | none=>none
   | some (v',h1)=>match qy0 (pub [] d) l h1 with
    | none=>none
    | some (l',h2)=>some (v'::l',h2))
  cases pub [] d h v with
  | none=>exact .self
  | some p =>
   obtain ⟨v',h1⟩:=p
   refine (IH h1 _).then ?_
   simp only
   cases qy0 (pub [] d) l h1 with
   | none=>exact .self
   | some q=>exact .self
theorem GX1 {d:Nat} (hd:5≤d) (h:Heap) (v:V) (kk:Option (V×Heap)→β):Nr bot kk (GS0 C bot d h v kk) (pub [] (Nat.succ d) h v):=by
 by_cases h1:∃ vs,v=.agg vs
 ·obtain ⟨vs,rfl⟩:=h1
  exact (jO1 hd vs h _).then .self
 ·have e:GS0 C bot d h v kk=QY0 C bot (Nat.succ d) h v kk:=by
   cases v <;> first | rfl | exact absurd ⟨_,rfl⟩ h1
  rw [e]
  exact GR0 (by omega) h v kk
theorem jN1 {d:Nat} (hd:5≤d) (l:List V):∀ (h:Heap) (kk:Option (List V×Heap)→β),Nr bot kk (XF0 C bot d l h kk) (qy0 (pub [] (Nat.succ d)) l h):=by
 induction l with
 | nil=>intro h kk;exact .self
 | cons v l IH =>
  intro h kk
  refine (GX1 (C:=C) hd h v (fun r=>match r with
   | none=>kk none
   | some (v',h1)=>XF0 C bot d l h1 (fun r2=>match r2 with
    | none=>kk none
    | some (l',h2)=>kk (some (v'::l',h2))))).then ?_
  change Nr bot kk _ (match pub [] (Nat.succ d) h v with
   | none=>none
   | some (v',h1)=>match qy0 (pub [] (Nat.succ d)) l h1 with
    | none=>none
    | some (l',h2)=>some (v'::l',h2))
  cases pub [] (Nat.succ d) h v with
  | none=>exact .self
  | some p =>
   obtain ⟨v',h1⟩:=p
   refine (IH h1 _).then ?_
   simp only
   cases qy0 (pub [] (Nat.succ d)) l h1 with
   | none=>exact .self
   | some q=>exact .self
theorem GT0 {d:Nat} (hd:5≤d) (h:Heap) (v:V) (kk:Option (V×Heap)→β):Nr bot kk (pubK C bot d h v kk) (pub [] (Nat.succ (Nat.succ d)) h v):=by
 by_cases h1:∃ vs,v=.agg vs
 ·obtain ⟨vs,rfl⟩:=h1
  exact (jN1 hd vs h _).then .self
 ·by_cases h2:∃ vs,v=.tup vs
  ·obtain ⟨vs,rfl⟩:=h2
   exact (jN1 hd vs h _).then .self
  ·have e:pubK C bot d h v kk=QY0 C bot (Nat.succ (Nat.succ d)) h v kk:=by
    cases v <;> first | rfl | exact absurd ⟨_,rfl⟩ h1 | exact absurd ⟨_,rfl⟩ h2
   rw [e]
   exact GR0 (by omega) h v kk
theorem qc2 (f:FuncId) (k:Res→β) (r:Res):Nr bot k (pubRK C bot f k r) (Qm0 f r):=by
 cases r with
 | ret v h =>
  have e:Qm0 f (.ret v h)=match pub [] depth h v with
   | some (v',h')=>.ret v' h'
   | .none=>.none f .none:=rfl
  rw [e]
  rcases GT0 (C:=C) (bot:=bot) (d:=38) (by omega) h v (fun x=>match x with
   | some (v',h')=>k (.ret v' h')
   | .none=>k (.none f .none)) with q | q
  ·exact .inl q
  ·refine .inr (Eq.trans q ?_)
   change (match pub [] depth h v with
    | some (v',h')=>k (.ret v' h')
    | .none=>k (.none f .none))=_
   cases pub [] depth h v with
   | none=>rfl
   | some p=>rfl
 | _=>exact .self
theorem GX0 (f:FuncId) (h:Heap) (r:Nat) {kk:Heap→β} {σ:Type} {k:σ→β} {F:Heap→σ} (hk:∀ h,Nr bot k (kk h) (F h)):Nr bot k (Yf0 C bot f h r kk) (F (Qn0 C f h r)):=by
 unfold Yf0 Qn0
 cases h.get r with
 | rowS ver0 ty0 sz pb l x =>
  refine (GT0 (C:=C) (bot:=bot) (d:=38) (by decide) h x _).then ?_
  change Nr bot k (match AM.pub [] depth h x with
   | some p=>(match p.2.get r with
    | .rowS ver ty sz' pb' _ _=>JV0 (C.nz f ty p.1) (fun v=>bif Nat.beq sz sz'&&Nat.beq pb pb'&&v.flat then kk (p.2.set r (.rowS ver ty sz pb l v)) else kk h)
    | _=>kk h)
   | none=>kk h) _
  simp only [JX1]
  cases AM.pub [] depth h x with
  | none=>exact hk h
  | some p =>
   simp only
   cases p.2.get r with
   | rowS ver ty sz' pb' _ _ =>
    simp only
    cases (Nat.beq sz sz'&&Nat.beq pb pb'&&(C.nz f ty p.1).flat) <;> exact hk _
   | _=>exact hk h
 | _=>exact hk h
theorem qX2 (f:FuncId) (l:List Nat):∀ (h:Heap) {kk:Heap→β} {σ:Type} {k:σ→β} {F:Heap→σ} (_:∀ h,Nr bot k (kk h) (F h)),Nr bot k (qn1 C bot f l h kk) (F (setH C f l h)):=by
 induction l with
 | nil=>intro h kk σ k F hk;exact hk h
 | cons i l IH =>
  intro h kk σ k F hk
  change Nr bot k (Yf0 C bot f h i (fun h=>qW0 (xpH h i) (fun h=>qn1 C bot f l h kk))) (F (setH C f l (xpH (Qn0 C f h i) i)))
  simp only [yk0]
  exact GX0 (F:=fun h=>F (setH C f l (xpH h i))) f h i fun h=>IH (xpH h i) hk
theorem zb2 (f:FuncId) (k:Res→β) (r:Res):Nr bot k (setRK C bot f k r) (setR C f r):=by
 cases r with
 | ret v h=>exact qX2 (F:=fun h=>Res.ret v h) f (qR0 h.n 0) h fun h=>.self
 | _=>exact .self
theorem JM1 (f:FuncId) (N:Nat) (k:Res→β) (r:Res):Nr bot k (KS0 C bot f N k r) (finC C f N r):=by
 unfold KS0 finC
 cases C.pb f with
 | false=>exact yt1 N k _
 | true=>exact (zb2 f _ r).then ((qc2 f _ _).then (yt1 N k _))
theorem Kn1 (N:Nat) (ks:Option (List Nat×List Nat×List Nat)) (k:Res→β) (r:Res):Nr bot k (Gw0 C bot N ks k r) (loopF N ks r):=by
 unfold Gw0 loopF
 cases Xk0 r with
 | true=>exact .self
 | false=>exact Gx0 N ks k r
theorem JO1 (t:Task) (k:Res→β) (r:Res):Nr bot k (finK C bot t k r) (finT C t r):=by
 cases t with
 | call f args h=>exact JM1 f h.n k r
 | code c fr h=>cases c <;> first | exact .self | exact Kn1 h.n _ k r
 | _=>exact .self
end
end
end Go.AM
