/-
  AN ABSTRACT MACHINE that runs a program over plain data, and a second one that tells what calls come to, are sound against the model (a part of it). No condition but what each theorem says.
-/
import Derived.Test.YtjdahgihdceebaaGreatDoorFe4
namespace Go.AM
noncomputable section
open Go.RowKit
def asInt:V→Int
 | .int _ n=>n
 | _=>0
def asStr:V→List UInt8
 | .str s=>s
 | _=>[]
def asBool:V→Bool
 | .bool b=>b
 | _=>false
def zW0:V→List V
 | .osl _ es=>es
 | _=>[]
def YS0 (sz:Nat) (es:List V) (off i:Nat):V:=((es.getD (off/sz) undef).cells).getD (off%sz+i) undef
def gI (sz:Nat) (es:List V) (off i:Nat):Int:=asInt (YS0 sz es off i)
def gS (sz:Nat) (es:List V) (off i:Nat):List UInt8:=asStr (YS0 sz es off i)
def gB (sz:Nat) (es:List V) (off i:Nat):Bool:=asBool (YS0 sz es off i)
def gE (sz:Nat) (es:List V) (off i:Nat):List V:=zW0 (YS0 sz es off i)
def etaC (P:Program) (t:TypeId) (sz:Nat) (es:List V) (off i:Nat):Option V :=
 match P.underlying t with
 | some (.int k)=>some (.int k (gI sz es off i))
 | some .string=>some (.str (gS sz es off i))
 | some .bool=>some (.bool (gB sz es off i))
 | some (.slice e)=>some (.osl (size P e) (gE sz es off i))
 | _=>none
def etaL (P:Program) (sz:Nat) (es:List V) (off:Nat) (ts:List TypeId):Nat→Option (List V) :=
 List.rec (motive:=fun _=>Nat→Option (List V)) (fun _=>some []) (fun t _ ih i=>match etaC P t sz es off i with
  | some c=>(match ih (Nat.succ i) with
   | some l=>some (c::l)
   | none=>none)
  | none=>none) ts
def zk0 (P:Program) (t:TypeId) (sz:Nat) (es:List V) (off:Nat):Option V :=
 match zi1 P 6 t with
 | some ts=>(match etaL P sz es off ts 0 with
  | some cs=>ys0 P t cs
  | none=>none)
 | none=>none
def ldX (P:Program) (t:TypeId) (sz:Nat) (es:List V) (off:Nat):Prop:=load P Heap.empty t (.gptr sz es off)=zk0 P t sz es off
def symR (C:Cf) (h:Heap) (r:Nat):Bool:=match h.get r with
 | .row _ ty _ _ cap _=>bif jp0 cap then C.srow ty else false
 | _=>false
def Xy0 (P:Program) (C:Cf) (h:Heap) (t:TypeId) (a:V) (d:So):So :=
 match a with
 | .ptr r ver off=>bif symR C h r then (match h.get r with
  | .row ver' _ sz _ _ es=>(match zk0 P t sz es off with
   | some v=>.obl v h (ver=ver'∧ldX P t sz es off)
   | none=>.no)
  | _=>.no) else d
 | _=>d
theorem QK1 (P:Program) (C:Cf) (h:Heap) (t:TypeId) (a:V) {d:So} (hd:So.ok (qm0 h (load P h t a)) d):So.ok (qm0 h (load P h t a)) (Xy0 P C h t a d):=by
 unfold Xy0
 split
 ·rename_i r ver off
  cases symR C h r with
  | false=>exact hd
  | true =>
   simp only [cond_true]
   split
   ·rename_i ver' ty sz pub cap es hg
    split
    ·rename_i v hv
     rintro ⟨rfl,hl⟩
     have e:load P h t (.ptr r ver off)=load P Heap.empty t (.gptr sz es off):=by
      unfold load
      simp only [hg]
      rw [show Nat.beq ver ver=true by simp]
      rfl
     have hl:load P Heap.empty t (.gptr sz es off)=zk0 P t sz es off:=hl
     rw [e,hl,hv];rfl
    ·trivial
   ·trivial
 ·exact hd
def Jq0 (P:Program) (C:Cf) (h:Heap) (t:TypeId) (a:V):So :=
 match a with
 | .gptr sz es off=>(match zk0 P t sz es off with
  | some v=>.obl v h (ldX P t sz es off)
  | none=>.no)
 | a=>Xy0 P C h t a (ofO h (load P h t a))
def jm0 (P:Program) (t:TypeId) (sz:Nat) (es:List V) (off:Nat):Option V :=
 match load P Heap.empty t (.gptr sz es off) with
 | some v=>some (yi0 P t v)
 | none=>none
def ldC (P:Program) (t:TypeId) (sz:Nat) (es:List V) (off:Nat):Prop:=jm0 P t sz es off=zk0 P t sz es off
def Jp0 (P:Program) (C:Cf) (h:Heap) (t:TypeId) (a:V):So :=
 match a with
 | .gptr sz es off=>(match zk0 P t sz es off with
  | some v=>.obl v h (ldC P t sz es off)
  | none=>.no)
 | a=>Xy0 P C h t a (ofO h (load P h t a))
def canS (P:Program) (t:TypeId) (r:So):So :=
 match r with
 | .val v h=>.val (yi0 P t v) h
 | .obl v h φ=>.obl (yi0 P t v) h φ
 | r=>r
def QS0 (C:Cf) (cn lit:Bool) (P:Program) (G:Nat→Option V) (tm:T V) (h:Heap) (o:Oper):So :=
 match o.op with
 | .load t a=>s1 G tm a (Bool.rec (Jq0 P C h t) (Jp0 P C h t) cn)
 | .build t _=>Bool.rec (yr0 lit P G tm h o) (bif C.cb t then canS P t (yr0 lit P G tm h o) else yr0 lit P G tm h o) cn
 | _=>yr0 lit P G tm h o
def zc0 (C:Cf) (cn lit:Bool) (P:Program) (G:Nat→Option V) (tm:T V) (h:Heap) (o:Oper):Rs:=Bool.rec (qw0 lit P G tm h o) (opC P C G tm o (qw0 lit P G tm h o)) cn
def Jo0 (C:Cf) (P:Program) (G:Nat→Option V) (tm:T V) (h:Heap) (o:Oper):So :=
 match o.op with
 | .load t a=>s1 G tm a (Jq0 P C h t)
 | _=>litD P G tm h o
theorem qC2 (P:Program) (C:Cf) (h:Heap) (t:TypeId) (a:V):So.ok (qm0 h (load P h t a)) (Jq0 P C h t a):=by
 cases a with
 | gptr sz es off =>
  unfold Jq0
  simp only
  cases he:zk0 P t sz es off with
  | none=>trivial
  | some v =>
   intro hl
   have hl:load P h t (.gptr sz es off)=zk0 P t sz es off:=hl
   rw [hl,he];rfl
 | _=>exact QK1 P C h t _ (zu0 h _)
theorem QM1 {P:Program} {lit:Bool} {G:Nat→Option V} {tm:T V} {h:Heap} {o:Oper} {t:TypeId} {a:Operand} (ho:o.op=.load t a):qw0 lit P G tm h o=o1 G tm h a (load P h t)∧qx0 P G tm h o=o1 G tm h a (load P h t):=by
 have hb:∀ t len ps,o.op≠.buildSlice t len ps:=fun _ _ _ e=>by rw [ho] at e;cases e
 have e0:qX0 P G tm h o=o1 G tm h a (load P h t):=by unfold qX0;rw [ho];rfl
 refine ⟨(zK0 hb).trans e0,?_⟩
 rw [← e0]
 unfold qx0
 split
 ·rename_i t len ps e;exact absurd e (hb t len ps)
 ·rfl
theorem ZZ1 (P:Program) (C:Cf) (G:Nat→Option V) (tm:T V) (h:Heap) (t:TypeId) (a:Operand):So.ok (o1 G tm h a (load P h t)) (s1 G tm a (Jq0 P C h t)):=by
 rw [Gi0]
 unfold s1
 cases AM.ev G tm a with
 | none=>trivial
 | some v=>exact qC2 P C h t v
theorem zQ2 {P:Program} {C:Cf} (cn lit:Bool) (G:Nat→Option V) (tm:T V) (h:Heap) (o:Oper):So.ok (zc0 C cn lit P G tm h o) (QS0 C cn lit P G tm h o):=by
 by_cases hb:∃ t a,o.op=.load t a
 ·obtain ⟨t,a,ho⟩:=hb
  have e1:QS0 C cn lit P G tm h o=s1 G tm a (Bool.rec (Jq0 P C h t) (Jp0 P C h t) cn):=by unfold QS0;rw [ho]
  have e2:opC P C G tm o (qw0 lit P G tm h o)=bif isGp (AM.ev G tm a) then (match qw0 lit P G tm h o with
   | .val v h=>.val (yi0 P t v) h
   | r=>r) else qw0 lit P G tm h o:=by unfold opC;rw [ho];rfl
  unfold zc0
  rw [e1,e2,(QM1 ho).1]
  cases cn with
  | false=>exact ZZ1 P C G tm h t a
  | true =>
   rw [Gi0]
   unfold s1
   cases AM.ev G tm a with
   | none=>trivial
   | some v =>
    change So.ok (bif isGp (some v) then (match qm0 h (load P h t v) with
     | .val v h=>.val (yi0 P t v) h
     | r=>r) else qm0 h (load P h t v)) (Jp0 P C h t v)
    cases hg:isGp (some v) with
    | false =>
     have e:Jp0 P C h t v=Xy0 P C h t v (ofO h (load P h t v)):=by
      unfold Jp0
      split
      ·cases hg
      ·rfl
     rw [e];exact QK1 P C h t v (zu0 h _)
    | true =>
     obtain ⟨sz,es,off,rfl⟩:∃ sz es off,v=.gptr sz es off:=by
      cases v <;> first | exact ⟨_,_,_,rfl⟩ | cases hg
     simp only [cond_true]
     unfold Jp0
     simp only
     cases he:zk0 P t sz es off with
     | none=>trivial
     | some v =>
      intro hl
      change jm0 P t sz es off=zk0 P t sz es off at hl
      rw [he] at hl
      unfold jm0 at hl
      have e:load P Heap.empty t (.gptr sz es off)=load P h t (.gptr sz es off):=rfl
      rw [e] at hl
      cases hv:load P h t (.gptr sz es off) with
      | none=>rw [hv] at hl;cases hl
      | some x=>rw [hv] at hl;simp only [Option.some.injEq] at hl;rw [← hl];rfl
 ·have h0:=Zv1 (P:=P) lit G tm h o
  by_cases hb2:∃ t ps,o.op=.build t ps
  ·obtain ⟨t,ps,ho⟩:=hb2
   have e1:QS0 C cn lit P G tm h o=Bool.rec (yr0 lit P G tm h o) (bif C.cb t then canS P t (yr0 lit P G tm h o) else yr0 lit P G tm h o) cn:=by unfold QS0;rw [ho]
   have e2:opC P C G tm o (qw0 lit P G tm h o)=bif C.cb t then (match qw0 lit P G tm h o with
    | .val v h=>.val (yi0 P t v) h
    | r=>r) else qw0 lit P G tm h o:=by unfold opC;rw [ho];rfl
   unfold zc0
   rw [e1,e2]
   cases cn with
   | false=>exact h0
   | true =>
    cases C.cb t with
    | false=>exact h0
    | true =>
     simp only [cond_true]
     generalize yr0 lit P G tm h o=q at h0
     cases q with
     | val v h1=>rw [show qw0 lit P G tm h o=.val v h1 from h0];rfl
     | obl v h1 φ=>intro hφ;rw [show qw0 lit P G tm h o=.val v h1 from h0 hφ]
     | skip h1=>rw [show qw0 lit P G tm h o=.skip h1 from h0];rfl
     | no=>trivial
  ·have e1:QS0 C cn lit P G tm h o=yr0 lit P G tm h o:=by
    unfold QS0
    split
    ·rename_i t a e;exact absurd ⟨t,a,e⟩ hb
    ·rename_i t a e;exact absurd ⟨t,a,e⟩ hb2
    ·rfl
   have e2:opC P C G tm o (qw0 lit P G tm h o)=qw0 lit P G tm h o:=by
    unfold opC
    split
    ·rename_i t a e;exact absurd ⟨t,a,e⟩ hb
    ·rename_i t a e;exact absurd ⟨t,a,e⟩ hb2
    ·rfl
   unfold zc0
   rw [e1,e2]
   cases cn <;> exact h0
theorem QJ1 {P:Program} {C:Cf} (G:Nat→Option V) (tm:T V) (h:Heap) (o:Oper):So.ok (qx0 P G tm h o) (Jo0 C P G tm h o):=by
 unfold Jo0
 split
 ·rename_i t a ho
  rw [(QM1 (lit:=false) ho).2];exact ZZ1 P C G tm h t a
 ·exact qz2 (P:=P) G tm h o
def eqB (x y:V):Option Bool :=
 match x with
 | .str a=>(match y with
  | .str b=>some (decide (a=b))
  | _=>none)
 | x=>eqS x y
theorem eqB_eq (x y:V):eqB x y=eqS x y:=by
 cases x with
 | str a =>
  cases y with
  | str b =>
   change some (decide (a=b))=some (zG0 a b)
   rw [YG0,qe1]
  | _=>rfl
 | _=>rfl
def KF0 {β:Type} (k:V) (l:List (V×V)) (kk:Option (Option V)→β):β :=
 List.rec (kk (some none)) (fun p _ ih=>match eqB k p.1 with
  | some b=>Bool.rec ih (kk (some (some p.2))) b
  | none=>kk none) l
theorem jT1 {β:Type} (k:V) (l:List (V×V)) (kk:Option (Option V)→β):KF0 k l kk=kk (findKey k l):=by
 induction l with
 | nil=>rfl
 | cons p l IH =>
  change (match eqB k p.1 with
   | some b=>Bool.rec (KF0 k l kk) (kk (some (some p.2))) b
   | none=>kk none)=kk (findKey k (p::l))
  rw [jU1,eqB_eq]
  cases eqS k p.1 with
  | none=>rfl
  | some b=>cases b <;> first | exact IH | rfl
def Gc0 {β:Type} (P:Program) (t:TypeId) (ok:Bool) (h:Heap) (m k:V) (kk:Option V→β):β :=
 match Jv0 P t with
 | none=>kk none
 | some (kt,e)=>bif zl0 P kt k then (match m with
  | .nilm=>kk (Zo0 P ok e (some none))
  | .map r=>(match h.get r with
   | .map es=>KF0 k es (fun x=>kk (Zo0 P ok e x))
   | _=>kk none)
  | .gmap ks vs=>KF0 k (ZR0 ks vs) (fun x=>kk (Zo0 P ok e x))
  | _=>kk none) else kk none
theorem QP1 {β:Type} (P:Program) (t:TypeId) (ok:Bool) (h:Heap) (m k:V) (kk:Option V→β):Gc0 P t ok h m k kk=kk (lookup P h t ok m k):=by
 unfold Gc0 lookup
 cases Jv0 P t with
 | none=>rfl
 | some p =>
  obtain ⟨kt,e⟩:=p
  simp only
  cases zl0 P kt k with
  | false=>rfl
  | true =>
   simp only [cond_true]
   cases m with
   | map r =>
    simp only
    cases h.get r with
    | map es=>exact jT1 k es _
    | _=>rfl
   | gmap ks vs=>exact jT1 k (ZR0 ks vs) _
   | _=>rfl
inductive PR (α ε:Type) where
 | no
 | ok (a:α)
 | er (e:ε)
structure Ent where
 α:Type
 ε:Type
 x:PR α ε
 s:α→Bool
 t:α→Bool
 R:Bool→Bool→α→Res
 Q:ε→Res
def ent {α ε:Type} (x:PR α ε) (R:α→Res) (Q:ε→Res):Ent:=⟨α,ε,x,fun _=>true,fun _=>true,fun _ _=>R,Q⟩
def Ent.res (e:Ent):Res :=
 match e.x with
 | .no=>.none 0 none
 | .ok a=>e.R (e.s a) (e.t a) a
 | .er n=>e.Q n
def ZU0 (ih0:Task→Res) (Tb:Task→Option Ent):Prop:=∀ t e,Tb t=some e→e.x=.no∨e.res=ih0 t
def putDf (e:V) (j:Nat) (cs:List V):V :=
 match ZJ0 e j cs with
 | some e'=>e'
 | none=>e
def qY0 (sz:Nat) (es:List V) (off:Nat) (v:V):List V:=List.setN (putDf (es.getD (off/sz) undef) (off%sz) v.cells) es (off/sz)
def stX (P:Program) (t:TypeId) (v:V) (pub sz:Nat) (es:List V) (off:Nat):Prop:=v.flat=true∧v.cells.length=size P t∧pub≤off/sz∧1≤size P t∧off/sz<es.length∧ZJ0 (es.getD (off/sz) undef) (off%sz) v.cells≠none
def isShr:BinOp→Bool
 | .shr=>true
 | _=>false
theorem QU2 {P:Program} {h:Heap} {t:TypeId} {r ver ver' ty sz pub off:Nat} {cap:Option Nat} {es:List V} {v:V} (hg:h.get r=.row ver' ty sz pub cap es) (hv:ver=ver') (hs:stX P t v pub sz es off):store P h t (.ptr r ver off) v=some (h.set r (.row ver ty sz pub cap (qY0 sz es off v))):=by
 subst hv
 obtain ⟨h1,h2,h3,h4,h5,h6⟩:=hs
 have hat:List.at es (Nat.div off sz)=some (es.getD (off/sz) undef):=by
  rw [List.at_eq]
  change es[off/sz]?=_
  rw [List.getElem?_eq_getElem h5,List.getD_eq_getElem?_getD,List.getElem?_eq_getElem h5]
  rfl
 unfold store
 simp only [hg]
 have e0:(Nat.beq ver ver&&v.flat&&Nat.beq (List.len v.cells) (size P t)&&Nat.ble pub (Nat.div off sz)&&Nat.ble 1 (size P t))=true:=by
  simp only [Bool.and_eq_true,Nat.beq_eq,Nat.ble_eq,List.len_eq]
  exact ⟨⟨⟨⟨trivial,h1⟩,h2⟩,h3⟩,h4⟩
 rw [e0]
 simp only [cond_true,hat]
 unfold qY0 putDf
 change (match ZJ0 (es.getD (off/sz) undef) (off%sz) v.cells with
  | some e'=>some (h.set r (.row ver ty sz pub cap (List.setN e' es (off/sz))))
  | none=>none)=_
 cases hp:ZJ0 (es.getD (off/sz) undef) (off%sz) v.cells with
 | none=>exact absurd hp h6
 | some e'=>rfl
section defs
variable (P:Program) (E:Env) (C:Cf) (Tb:Task→Option Ent) (ih0:Task→Res) {β:Type} (bot:β)
def Ent.run (e:Ent) (k:Res→β):β:=PR.rec (motive:=fun _=>β) bot (fun a=>Bool.rec (Bool.rec (k (e.R false false a)) (k (e.R false true a)) (e.t a)) (Bool.rec (k (e.R true false a)) (k (e.R true true a)) (e.t a)) (e.s a)) (fun n=>k (e.Q n)) e.x
def oK (t:Task) (k:Res→β):β :=
 match Tb t with
 | some e=>e.run bot k
 | none=>k (ih0 t)
variable (rec:Task→(Res→β)→β)
def qP1 (f:FuncId) (args:List V) (h:Heap) (k:Res→β):β :=
 needs bot (Je0 C h (zi0 C h 60 (qz0 (qy0 8) args) [])) (match qc0 (rnV (qo0 (zi0 C h 60 (qz0 (qy0 8) args) [])) 8) args with
 | none=>rec (.call f args h) k
 | some as=>match qc0 (fun r=>rnH C h (qo0 (zi0 C h 60 (qz0 (qy0 8) args) [])) r) (zi0 C h 60 (qz0 (qy0 8) args) []) with
  | none=>rec (.call f args h) k
  | some os=>bif okR h.n (zi0 C h 60 (qz0 (qy0 8) args) []) then oK Tb ih0 bot (.call f as (hp os)) (fun r=>outK C bot h (zi0 C h 60 (qz0 (qy0 8) args) []) k r) else rec (.call f args h) k)
def qW0 (t:Task) (k:Res→β):β :=
 match t with
 | .call f args h=>bif C.inl f then rec (.call f args h) k else qP1 C Tb ih0 bot rec f (C.na f args) h k
 | .code c fr h=>(match c with
  | .loop b=>bif C.unr fr.fn b h.n then rec (.code (.loop b) (wkF (C.live fr.fn b) fr) h) k else oK Tb ih0 bot (.code (.loop b) (wkF (C.live fr.fn b) fr) (Zr0 h)) k
  | c=>rec (.code c fr h) k)
 | t=>rec t k
def GO0 (f:V→(V→β)→β) (l:List V):(List V→β)→β :=
 List.rec (motive:=fun _=>(List V→β)→β) (fun kk=>kk []) (fun v _ ih kk=>f v (fun v'=>ih (fun l'=>kk (v'::l')))) l
def yj1 (d:Nat):V→(V→β)→β :=
 Nat.rec (motive:=fun _=>V→(V→β)→β) (fun v kk=>kk v) (fun _ ih v kk=>match v with
  | .bool b=>Bool.rec (kk (.bool false)) (kk (.bool true)) b
  | .agg vs=>GO0 ih vs (fun l=>kk (.agg l))
  | .tup vs=>GO0 ih vs (fun l=>kk (.tup l))
  | v=>kk v) d
def goK (o:Oper) (fr:Fr) (next:Fr→Heap→β) (v:V) (h:Heap) (k:Res→β):β :=
 yj1 6 v (fun v=>match fr.put o.dst v with
 | none=>k (.none fr.fn (some o))
 | some fr'=>next fr' h)
def Kh0 (o:Oper) (fr:Fr) (next:Fr→Heap→β) (k:Res→β) (r:Res):β :=
 match r with
 | .ret v h=>goK o fr next v h k
 | .panic v h=>k (.code (.panic v) fr h)
 | .none a b=>k (.none a b)
 | _=>k (.none fr.fn (some o))
def qj1 (f:FuncId) (args:List V) (h:Heap) (k:Res→β):β :=
 XL0 C bot depth args h (fun x=>match x with
 | .none=>k (.none f .none)
 | some (gs,h1) =>
  match E.prim f gs with
  | some v=>k (Yj0 E f (Bool.rec h1 h (E.borrow f)) v)
  | .none=>qW0 C Tb ih0 bot rec (.call f gs Heap.empty) (fun r=>k (Yh0 (Yj0 E f) (E.borrow f) (Bool.rec h1 h (E.borrow f)) f r)))
def ql1 (f:FuncId) (args:List V) (h:Heap) (k:Res→β):β :=
 bif qF0 (ground 3) args then
  (match E.prim f args with
  | some v=>k (Ka0 h v)
  | .none=>qW0 C Tb ih0 bot rec (.call f args Heap.empty) (fun r=>k (Yh0 Ka0 false h f r)))
 else k (.none f .none)
def JI1 (f:FuncId) (args:List V) (h:Heap) (k:Res→β):β :=
 qW0 C Tb ih0 bot rec (.call f args h) (fun r=>k (Bool.rec r (ZH0 f r) (E.pubRet f)))
def Kt0 (lit:Bool) (f:FuncId) (args:List V) (h:Heap) (k:Res→β):β :=
 Bool.rec (Bool.rec (qj1 E C Tb ih0 bot rec f args h k) (ql1 E C Tb ih0 bot rec f args h k) lit) (JI1 E C Tb ih0 bot rec f args h k) (E.shared f)
def rsK (o:Oper) (fr:Fr) (next:Fr→Heap→β) (k:Res→β) (r:Rs):β :=
 match r with
 | .val v h=>goK o fr next v h k
 | .skip h=>goK o fr next undef h k
 | .call f args h=>Kt0 E C Tb ih0 bot rec false f args h (fun r=>Kh0 o fr next k r)
 | .yield l args h=>qW0 C Tb ih0 bot rec (.yield l args h) (fun r=>Kh0 o fr next k r)
 | .panic v h=>k (.code (.panic v) fr h)
 | .defer f args h=>(match fr.round with
  | some _=>k (.none fr.fn (some o))
  | .none=>match fr.marks with
   | []=>goK o { fr with defers:=(f,args)::fr.defers } next undef h k
   | _=>k (.none fr.fn (some o)))
 | .recover _=>k (.none fr.fn (some o))
 | .stuck=>k (.none fr.fn (some o))
def opK' (cn:Bool) (o:Oper) (fr:Fr) (next:Fr→Heap→β) (h:Heap) (k:Res→β):β :=
 match QS0 C cn (E.lit fr.fn) P E.glob fr.tm h o with
 | .val v h1=>goK o fr next v h1 k
 | .obl v h1 φ=>need bot φ (goK o fr next v h1 k)
 | .skip h1=>goK o fr next undef h1 k
 | .no=>rsK E C Tb ih0 bot rec o fr next k (zc0 C cn (E.lit fr.fn) P E.glob fr.tm h o)
def yk1 (o:Oper) (fr:Fr) (next:Fr→Heap→β) (h:Heap) (k:Res→β) (d:β):β :=
 match o.op with
 | .store t a x=>(match ev E.glob fr.tm a with
  | some (.ptr r ver off)=>bif symR C h r then (match ev E.glob fr.tm x with
   | some v=>(match h.get r with
    | .row ver' ty sz pub cap es=>need bot (ver=ver') (need bot (stX P t v pub sz es off) (goK o fr next undef (h.set r (.row ver ty sz pub cap (qY0 sz es off v))) k))
    | _=>d)
   | none=>d) else d
  | _=>d)
 | _=>d
def yh1 (o:Oper) (fr:Fr) (next:Fr→Heap→β) (h:Heap) (k:Res→β) (d:β):β :=
 match o.op with
 | .binOp op t x y _=>bif C.shf fr.fn&&isShr op then (match ev E.glob fr.tm x with
  | some (.int kk a)=>(match ev E.glob fr.tm y with
   | some (.int kb b)=>need bot (qQ0 .shr kk a b=some (.int kk (a/2^b.toNat))) (goK o fr next (.int kk (a/2^b.toNat)) h k)
   | _=>d)
  | _=>d) else d
 | _=>d
def recvA:V→Bool
 | .nils=>true
 | .sl _ _ _ _ _=>true
 | .gsl _ _ _=>true
 | _=>false
def appK (o:Oper) (fr:Fr) (next:Fr→Heap→β) (h:Heap) (k:Res→β) (d:β):β :=
 match o.op with
 | .call c=>(match c.callee with
  | .builtin b=>(match b with
   | .append=>(match qc0 (ev E.glob fr.tm) c.args.toList with
    | some [x,y]=>(match c.argTypes.toList with
     | [t,u]=>(match y with
      | .osl sz es=>(match qu0 P t with
       | some e=>bif C.apf fr.fn&&yo0 P u&&recvA x&&Nat.beq sz (size P e)&&!(Nat.beq (size P e) 0) then Bool.rec d (goK o fr next x h k) (qn0 es) else d
       | none=>d)
      | _=>d)
     | _=>d)
    | _=>d)
   | _=>d)
  | _=>d)
 | _=>d
def opK (cn:Bool) (o:Oper) (fr:Fr) (next:Fr→Heap→β) (h:Heap) (k:Res→β):β :=
 match o.op with
 | .lookup t m key ok=>(match ev E.glob fr.tm m with
  | some mv=>(match ev E.glob fr.tm key with
   | some kv=>Gc0 P t ok h mv kv (fun x=>match x with
    | some v=>goK o fr next v h k
    | none=>k (.none fr.fn (some o)))
   | none=>k (.none fr.fn (some o)))
  | none=>k (.none fr.fn (some o)))
 | _=>yh1 E C bot o fr next h k (yk1 P E C bot o fr next h k (appK P E C o fr next h k (opK' P E C Tb ih0 bot rec cn o fr next h k)))
def preK (o:Oper) (fr:Fr) (h:Heap) (kk:Fr→Heap→β):β :=
 match o.op with
 | .store t _ v=>(match v with
  | .tmp i=>(match C.ps fr.fn t with
   | some b=>bif Nat.blt i fr.n then (match jq0 (fr.at' i) with
    | some v=>Bool.rec (kk (fr.st i (C.nz fr.fn t v)) h) (JI0 C bot depth h v (fun r=>match r with
     | some p=>kk (fr.st i (C.nz fr.fn t p.1)) p.2
     | none=>kk fr h)) b
    | none=>kk fr h) else kk fr h
   | none=>kk fr h)
  | _=>kk fr h)
 | _=>kk fr h
def ZF0 (cn:Bool) (all l:List Oper):Fr→Heap→(Res→β)→β :=
 List.rec (motive:=fun _=>Fr→Heap→(Res→β)→β) (fun fr h k=>k (.code .normal fr h))
  (fun o _ ih fr h k=>Bool.rec (match wanted all fr o with
   | none=>k (.none fr.fn (some o))
   | some b=>Bool.rec (goK o fr (fun fr h=>ih fr h k) undef h k) (opK P E C Tb ih0 bot rec false o fr (fun fr h=>ih fr h k) h k) b)
   (preK C bot o fr h (fun fr h=>match wanted all fr o with
   | none=>k (.none fr.fn (some o))
   | some b=>Bool.rec (goK o fr (fun fr h=>ih fr h k) undef h k) (opK P E C Tb ih0 bot rec true o fr (fun fr h=>ih fr h k) h k) b)) cn) l
def qw1 (tm:T V) (h:Heap) (o:Oper) (k:Outc→β):β :=
 match Jo0 C P E.glob tm h o with
 | .val v h1=>k (.val v h1)
 | .obl v h1 φ=>need bot φ (k (.val v h1))
 | .skip h1=>k (.val undef h1)
 | .no=>match qx0 P E.glob tm h o with
  | .val v h'=>k (.val v h')
  | .skip h'=>k (.val undef h')
  | .call f args h'=>Kt0 E C Tb ih0 bot rec true f args h' (fun r=>k (orOf r))
  | .yield l args h'=>qW0 C Tb ih0 bot rec (.yield l args h') (fun r=>k (orOf r))
  | .panic v h'=>k (.panic v h')
  | _=>k .stuck
def qv1 (tm:T V) (h:Heap) (o:Oper) (k:Outc→β):β :=
 match o.op with
 | .lookup t m key ok=>(match ev E.glob tm m with
  | some mv=>(match ev E.glob tm key with
   | some kv=>Gc0 P t ok h mv kv (fun x=>match x with
    | some v=>k (.val v h)
    | none=>k .stuck)
   | none=>k .stuck)
  | none=>k .stuck)
 | _=>qw1 P E C Tb ih0 bot rec tm h o k
def YX0 (o:Oper) (v:V) (fr:Fr) (next:Fr→β) (kk:DR→β):β :=
 yj1 6 v (fun v=>match fr.put o.dst v with
 | none=>kk (.stuck (some o))
 | some fr'=>next fr')
def Ky0 (d:DOp) (next:Fr→Heap→Nat→List Hp→List Rc→Option Pn→List Nat→β) (fr:Fr) (h:Heap) (pb:Nat) (hs:List Hp) (rs:List Rc) (pan:Option Pn) (ix:List Nat) (kk:DR→List Nat→β) (r:Outc):β :=
 match r with
 | .val v h'=>bif d.w then (bif zs0 pan then YX0 d.o v fr (fun fr'=>next fr' h' d.b (⟨pb,h,some d.i⟩::hs) rs pan ix) (fun r=>kk r ix) else kk (.stuck (some d.o)) ix)
  else YX0 d.o v fr (fun fr'=>next fr' h pb hs (bif zZ0 E d.o.op then rs else ⟨d.o,d.i,d.b,fr.tm,v⟩::rs) pan (bif zZ0 E d.o.op then ix else List.len hs::ix)) (fun r=>kk r ix)
 | .panic v h'=>bif d.w&&zs0 pan then next fr h pb (⟨pb,h,some d.i⟩::hs) rs (some ⟨d.i,v,h'⟩) ix else kk (.stuck (some d.o)) ix
 | .stuck=>kk (.stuck (some d.o)) ix
def qt1 (all:List Oper) (d:DOp) (next:Fr→Heap→Nat→List Hp→List Rc→Option Pn→List Nat→β) (fr:Fr) (h:Heap) (pb:Nat) (hs:List Hp) (rs:List Rc) (pan:Option Pn) (ix:List Nat) (kk:DR→List Nat→β):β :=
 bif XI0 pan d.b then next fr h pb hs rs pan ix
 else match wanted all fr d.o with
  | .none=>kk (.stuck (some d.o)) ix
  | some t=>Bool.rec (bif d.w then (bif zs0 pan then YX0 d.o undef fr (fun fr'=>next fr' h d.b (⟨pb,h,some d.i⟩::hs) rs pan ix) (fun r=>kk r ix) else kk (.stuck (some d.o)) ix)
   else YX0 d.o undef fr (fun fr'=>next fr' h pb hs rs pan ix) (fun r=>kk r ix))
   (qv1 P E C Tb ih0 bot rec fr.tm h d.o (fun r=>Ky0 E d next fr h pb hs rs pan ix kk r)) t
def Xh0 (all:List Oper) (l:List DOp):Fr→Heap→Nat→List Hp→List Rc→Option Pn→List Nat→(DR→List Nat→β)→β :=
 List.rec (motive:=fun _=>Fr→Heap→Nat→List Hp→List Rc→Option Pn→List Nat→(DR→List Nat→β)→β) (fun fr h pb hs rs pan ix kk=>kk (.done fr h (bif zs0 pan then ⟨pb,h,none⟩::hs else hs) rs pan) ix)
  (fun d _ ih fr h pb hs rs pan ix kk=>qt1 P E C Tb ih0 bot rec all d (fun fr h pb hs rs pan ix=>ih fr h pb hs rs pan ix kk) fr h pb hs rs pan ix kk) l
def jf1 (r:Rc) (e:Hp) (x:β):β :=
 match Jo0 C P E.glob r.tm e.h r.o with
  | .val v _=>need bot (r.v=v) x
  | .obl v _ φ=>need bot φ (need bot (r.v=v) x)
  | .skip _=>need bot (r.v=undef) x
  | .no=>bot
def je1 (r:Rc) (e:Hp) (x:β):β :=
 match r.o.op with
 | .lookup t m key ok=>(match ev E.glob r.tm m with
  | some mv=>(match ev E.glob r.tm key with
   | some kv=>need bot (lookup P e.h t ok mv kv=some r.v) x
   | none=>bot)
  | none=>bot)
 | _=>jf1 P E C bot r e x
def YW0 (r:Rc) (e:Hp) (x:β):β :=
 bif tb e.pb r.i then x
 else bif QQ0 r.b e.nx then x
 else je1 P E C bot r e x
def yR0 (r:Rc) (j:Option Nat) (hps:List Hp) (x:β):β:=List.rec x (fun e l ih=>bif yW0 j (some (List.len l)) then ih else YW0 P E C bot r e ih) hps
def YV0 (hps:List Hp) (rcs:List Rc) (x:β):List Nat→β:=List.rec (motive:=fun _=>List Nat→β) (fun _=>x) (fun r _ ih ix=>match ix with
 | []=>yR0 P E C bot r none hps (ih [])
 | j::ix=>yR0 P E C bot r (some j) hps (ih ix)) rcs
def KA0 (l:List DOp) (fn:FuncId) (k:Res→β) (r:DR) (ix:List Nat):β :=
 match r with
 | .stuck o=>k (.none fn o)
 | .done fr h hps rcs pan=>bif QP0 l then (match pan with
  | none=>k (.code .normal fr h)
  | some p=>k (.code (.panic p.v) (zJ0 l fr) p.h))
  else YV0 P E C bot hps rcs (match pan with
   | none=>k (.code .normal fr h)
   | some p=>k (.code (.panic p.v) (zJ0 l fr) p.h)) ix
def qy1 (all:List Oper) (fr:Fr) (h:Heap) (k:Res→β):β :=
 match (bif P.follows .mixedOrders then Ye0 E all else none) with
 | none=>k (.none fr.fn none)
 | some l=>Xh0 P E C Tb ih0 bot rec all l fr h 0 [] [] none [] (fun r ix=>KA0 P E C bot l fr.fn k r ix)
def seqK (b:Code) (k:Res→β) (r:Res):β :=
 match r with
 | .code e fr h=>(match e with
  | .normal=>qW0 C Tb ih0 bot rec (.code b fr h) k
  | e=>k (.code e fr h))
 | r=>k r
def seqL (b:Code) (k:Res→β) (r:Res):β :=
 match r with
 | .code e fr h=>(match e with
  | .normal=>qW0 C Tb ih0 bot rec (.code b fr h) (fun r=>Js0 C bot h.n (C.live fr.fn b) k r)
  | e=>k (.code e fr h))
 | r=>k r
def KB0 (lid:Nat) (fr:Fr) (k:Res→β) (r:Res):β :=
 match r with
 | .ret _ h=>(match h.get lid with
  | .loop st pending fn n tm ps a b d =>
   (match st with
   | .busy=>k (.none fr.fn .none)
   | _=>match pending with
    | .none=>k (.code .normal fr (h.set lid (.loop .exhausted pending fn n tm ps a b d)))
    | some c=>qW0 C Tb ih0 bot rec (.code c fr (h.set lid (.loop .exhausted pending fn n tm ps a b d))) k)
  | _=>k (.none fr.fn .none))
 | .panic v h=>k (.code (.panic v) fr h)
 | .none a b=>k (.none a b)
 | _=>k (.none fr.fn .none)
def zO1 (f:Operand) (params:Array Tmp) (assign body:Code) (fr:Fr) (h:Heap) (k:Res→β):β :=
 match ev E.glob fr.tm f with
 | .none=>k (.none fr.fn .none)
 | some fv=>match YY0 fr h with
  | .none=>k (.none fr.fn .none)
  | some (d,marks,h1) =>
   match Zi0 P (h1.new (.loop .ready .none fr.fn fr.n fr.tm params.toList assign body d)) fv [.func (.yield h1.n) [] []] with
   | .call g args h2=>bif E.shared g then qW0 C Tb ih0 bot rec (.call g args h2) (fun r=>KB0 C Tb ih0 bot rec h1.n { fr with marks:=marks } k r) else k (.none fr.fn .none)
   | _=>k (.none fr.fn .none)
def codeK (c:Code) (fr:Fr) (h:Heap) (k:Res→β):β :=
 match c with
 | .skip=>k (.code .normal fr h)
 | .region _ ops draw=>bif draw then qy1 P E C Tb ih0 bot rec ops.toList fr h k else ZF0 P E C Tb ih0 bot rec true ops.toList ops.toList fr h k
 | .seq a b=>qW0 C Tb ih0 bot rec (.code a fr h) (fun r=>seqK C Tb ih0 bot rec b k r)
 | .cond c a b=>(match ev E.glob fr.tm c with
  | some (.bool t)=>Bool.rec (qW0 C Tb ih0 bot rec (.code b fr h) k) (qW0 C Tb ih0 bot rec (.code a fr h) k) t
  | _=>k (.none fr.fn .none))
 | .block id b=>qW0 C Tb ih0 bot rec (.code b fr h) (fun r=>k (XR0 id r))
 | .loop b=>qW0 C Tb ih0 bot rec (.code b fr h) (fun r=>Js0 C bot h.n (C.live fr.fn b) (fun r=>seqL C Tb ih0 bot rec (.loop b) k r) r)
 | .rangeFunc f params assign body=>zO1 P E C Tb ih0 bot rec f params assign body fr h k
 | .exit id=>k (.code (.exit id) fr h)
 | .scope b=>qW0 C Tb ih0 bot rec (.code b fr h) k
 | .label _=>k (.code .normal fr h)
 | .goto _=>k (.none fr.fn .none)
 | .ret=>k (.code .ret fr h)
 | .refuse _=>k (.none fr.fn .none)
def ZQ1 (f:FuncId) (fn:Func) (fr:Fr) (l:List (FuncId×List V)):Option V→Heap→(Res→β)→β :=
 List.rec (motive:=fun _=>Option V→Heap→(Res→β)→β) (fun p h k=>k (KC0 P f fn fr p h))
  (fun d _ ih p h k=>qW0 C Tb ih0 bot rec (.dcall d.1 d.2 p h) (fun r=>match r with
   | .dret _ h'=>ih .none h' k
   | .none a b=>k (.none a b)
   | _=>k (.none f .none))) l
def Xj0 (f:FuncId) (fn:Func) (fr:Fr) (p:Option V) (h:Heap) (k:Res→β):β :=
 match Jn0 fr.marks h with
 | .none=>k (.none f .none)
 | some h'=>ZQ1 P C Tb ih0 bot rec f fn fr fr.defers p h' k
def qD1 (f:FuncId) (fn:Func) (k:Res→β) (r:Res):β :=
 match r with
 | .code e fr h=>(match e with
  | .normal=>Xj0 P C Tb ih0 bot rec f fn fr .none h k
  | .ret=>Xj0 P C Tb ih0 bot rec f fn fr .none h k
  | .panic v=>Xj0 P C Tb ih0 bot rec f fn fr (some v) h k
  | _=>k (.none f .none))
 | r=>k r
def callK (f:FuncId) (args:List V) (h:Heap) (k:Res→β):β :=
 match P.funcs[f]? with
 | .none=>k (.none f .none)
 | some fn=>match fn.body with
  | .none=>(match Xo0 P fn args h with
   | some (v,h')=>k (.ret v h')
   | .none=>k (.none f .none))
  | some body=>bif Nat.ble (List.len args) fn.ntmps then qW0 C Tb ih0 bot rec (.code body ⟨f,fn.ntmps,yL0 args 0 (yA0 (ym0 fn.ntmps)),[],[],.none,.none,false⟩ h) (fun r=>qD1 P C Tb ih0 bot rec f fn k r) else k (.none f .none)
def Kn0 (l:Nat) (body:Code) (k:Res→β) (r:Res):β :=
 match r with
 | .code e fr h=>(match e with
  | .normal=>(match h.get l with
   | .loop st pend fn n tm ps a b d=>(match st with
    | .ready=>qW0 C Tb ih0 bot rec (.code body fr (h.set l (.loop .busy pend fn n tm ps a b d))) k
    | _=>k (.none l .none))
   | _=>k (.none l .none))
  | _=>k (.none l .none))
 | r=>k r
def yt1 (l:Nat) (args:List V) (h:Heap) (k:Res→β):β :=
 match h.get l with
 | .loop _ _ fn n tm ps assign body _=>(match XY0 ps n args tm with
  | .none=>k (.none l .none)
  | some tm'=>qW0 C Tb ih0 bot rec (.code assign ⟨fn,n,tm',[],[],some l,.none,false⟩ h) (fun r=>Kn0 C Tb ih0 bot rec l body (fun r2=>k (endRound l r2)) r))
 | _=>k (.none l .none)
def qu1 (f:FuncId) (args:List V) (p:Option V) (h:Heap) (k:Res→β):β :=
 match P.funcs[f]? with
 | .none=>k (.none f .none)
 | some fn=>match fn.body with
  | some (.seq (.region _ ops false) rest)=>(match ops.toList with
   | []=>k (.none f .none)
   | o::l=>bif Yo0 o&&qn0 fn.results.toList&&Nat.ble (List.len args) fn.ntmps then
    (match Fr.put ⟨f,fn.ntmps,yL0 args 0 (yA0 (ym0 fn.ntmps)),[],[],.none,.none,false⟩ o.dst (Go0 p) with
     | some fr1=>ZF0 P E C Tb ih0 bot rec false ops.toList l fr1 h (fun r=>seqK C Tb ih0 bot rec rest (fun r2=>k (Xk0 f r2)) r)
     | .none=>k (.none f .none))
    else k (.none f .none))
  | _=>k (.none f .none)
def stepK (t:Task) (k:Res→β):β :=
 match t with
 | .code c fr h=>codeK P E C Tb ih0 bot rec c fr h k
 | .call f args h=>callK P C Tb ih0 bot rec f args h k
 | .yield l args h=>yt1 C Tb ih0 bot rec l args h k
 | .dcall f args p h=>qu1 P E C Tb ih0 bot rec f args p h k
end defs
def evT (P:Program) (E:Env) (C:Cf) (Tb:Task→Option Ent) (ih0:Task→Res) {β:Type} (bot:β) (m:Nat):Task→(Res→β)→β :=
 Nat.rec (motive:=fun _=>Task→(Res→β)→β) (fun _ k=>k (.none 0 none)) (fun _ rec=>stepK P E C Tb ih0 bot rec) m
section split
variable {β:Type}
theorem Yj1 {f:V→(V→β)→β} (hf:∀ v kk,f v kk=kk v) (l:List V):∀ kk,GO0 f l kk=kk l:=by
 induction l with
 | nil=>intro kk;rfl
 | cons v l IH =>
  intro kk
  change f v (fun v'=>GO0 f l (fun l'=>kk (v'::l')))=kk (v::l)
  rw [hf,IH]
theorem Yk1 (d:Nat):∀ (v:V) (kk:V→β),yj1 d v kk=kk v:=by
 induction d with
 | zero=>intro v kk;rfl
 | succ d IH =>
  intro v kk
  cases v with
  | bool b=>cases b <;> rfl
  | agg vs=>exact Yj1 IH vs _
  | tup vs=>exact Yj1 IH vs _
  | _=>rfl
end split
section ok
variable {P:Program} {E:Env} {C:Cf} {Tb:Task→Option Ent} {ih0:Task→Res} {β:Type} {bot:β} {rec:Task→(Res→β)→β} {ih:Task→Res}
theorem oK_ok (hT:ZU0 ih0 Tb) (t:Task) (k:Res→β):Nr bot k (oK Tb ih0 bot t k) (ih0 t):=by
 unfold oK
 split
 ·rename_i e he
  have hx:=hT t e he
  obtain ⟨α,ε,x,s,t',R,Q⟩:=e
  unfold Ent.run
  unfold Ent.res at hx
  cases x with
  | no=>exact .inl rfl
  | ok a =>
   rcases hx with h | h
   ·cases h
   ·refine .inr ?_
    simp only at h
    rw [← h]
    simp only
    cases s a <;> cases t' a <;> rfl
  | er n=>rcases hx with h | h;cases h;exact .inr (by simp only at h;rw [← h])
 ·exact .self
variable (hT:ZU0 ih0 Tb) (hr:∀ t k,Nr bot k (rec t k) (ih t))
 include hT hr
theorem Gw1 (f:FuncId) (args:List V) (h:Heap) (k:Res→β):Nr bot k (qP1 C Tb ih0 bot rec f args h k) (Xq0 ih0 ih f args h):=by
 unfold qP1
 refine .needs fun q=>?_
 have hh:=qN1 _ q
 have e:=ZJ1 _ _ _ hh
 rw [e] at hh ⊢
 rw [Zb1 (f:=fun r=>rnH C h (qo0 (zn0 h 60 (qz0 (qy0 8) args) [])) r) (g:=fun r=>rnO (qo0 (zn0 h 60 (qz0 (qy0 8) args) [])) (h.get r)) fun r hr=>ZN1 (hh r hr)]
 unfold Xq0
 generalize zn0 h 60 (qz0 (qy0 8) args) []=ρ
 generalize qc0 (rnV (qo0 ρ) 8) args=o1
 generalize qc0 (fun r=>rnO (qo0 ρ) (h.get r)) ρ=o2
 generalize okR h.n ρ=o3
 cases o1 with
 | none=>exact hr _ _
 | some as =>
  cases o2 with
  | none=>exact hr _ _
  | some os =>
   cases o3 with
   | false=>exact hr _ _
   | true=>exact (oK_ok hT _ _).then (zW2 h ρ k _)
theorem zz0 (t:Task) (k:Res→β):Nr bot k (qW0 C Tb ih0 bot rec t k) (qp0 C ih0 ih t):=by
 cases t with
 | call f args h =>
  unfold qW0 qp0
  simp only
  cases C.inl f with
  | true=>exact hr _ _
  | false=>exact Gw1 hT hr f (C.na f args) h k
 | code c fr h =>
  have key:∀ b,Nr bot k (bif C.unr fr.fn b h.n then rec (.code (.loop b) (wkF (C.live fr.fn b) fr) h) k else oK Tb ih0 bot (.code (.loop b) (wkF (C.live fr.fn b) fr) (Zr0 h)) k) (bif C.unr fr.fn b h.n then ih (.code (.loop b) (wkF (C.live fr.fn b) fr) h) else ih0 (.code (.loop b) (wkF (C.live fr.fn b) fr) (Zr0 h))):=fun b=>by
   cases C.unr fr.fn b h.n with
   | true=>exact hr _ _
   | false=>exact oK_ok hT _ _
  cases c <;> first | exact hr _ _ | exact key _
 | _=>exact hr _ _
 omit hT hr in theorem goK_ok {o:Oper} {fr:Fr} {next:Fr→Heap→β} {nextR:Fr→Heap→Res} {v:V} {h:Heap} {k:Res→β} (hn:∀ fr h,Nr bot k (next fr h) (nextR fr h)):Nr bot k (goK o fr next v h k) (yB0 o fr nextR v h):=by
  unfold goK yB0
  rw [Yk1]
  cases fr.put o.dst v with
  | none=>exact .self
  | some fr'=>exact hn fr' h
 omit hT hr in theorem afterK_ok {o:Oper} {fr:Fr} {next:Fr→Heap→β} {nextR:Fr→Heap→Res} {k:Res→β} (hn:∀ fr h,Nr bot k (next fr h) (nextR fr h)) (r:Res):Nr bot k (Kh0 o fr next k r) (JV0 o fr nextR (fun v h=>.code (.panic v) fr h) r):=by
  cases r with
  | ret v h=>exact goK_ok hn
  | _=>exact .self
theorem JG1 (f:FuncId) (args:List V) (h:Heap) (k:Res→β):Nr bot k (qj1 E C Tb ih0 bot rec f args h k) (Xd0 E (qp0 C ih0 ih) f args h):=by
 unfold qj1 Xd0
 refine (zM1 (C:=C) (bot:=bot) (d:=depth) (by decide) args h _).then ?_
 generalize qH0 (pub [] depth) args h=o1
 cases o1 with
 | none=>exact .self
 | some p =>
  obtain ⟨gs,h1⟩:=p
  simp only
  generalize E.prim f gs=o2
  cases o2 with
  | some v=>exact .self
  | none=>exact (zz0 hT hr _ _).then .self
theorem JJ1 (f:FuncId) (args:List V) (h:Heap) (k:Res→β):Nr bot k (ql1 E C Tb ih0 bot rec f args h k) (yx0 E (qp0 C ih0 ih) f args h):=by
 unfold ql1 yx0
 cases qF0 (ground 3) args with
 | false=>exact .self
 | true =>
  simp only [cond_true]
  generalize E.prim f args=o2
  cases o2 with
  | some v=>exact .self
  | none=>exact (zz0 hT hr _ _).then .self
theorem yW1 (lit:Bool) (f:FuncId) (args:List V) (h:Heap) (k:Res→β):Nr bot k (Kt0 E C Tb ih0 bot rec lit f args h k) (yh0 E (qp0 C ih0 ih) lit f args h):=by
 unfold Kt0 yh0
 cases E.shared f with
 | true=>exact (zz0 hT hr _ _).then .self
 | false =>
  cases lit with
  | true=>exact JJ1 hT hr f args h k
  | false=>exact JG1 hT hr f args h k
theorem rsK_ok {o:Oper} {fr:Fr} {next:Fr→Heap→β} {nextR:Fr→Heap→Res} {k:Res→β} (hn:∀ fr h,Nr bot k (next fr h) (nextR fr h)) (r:Rs):Nr bot k (rsK E C Tb ih0 bot rec o fr next k r) (yf0 E (qp0 C ih0 ih) false o fr nextR (fun v h=>.code (.panic v) fr h) r):=by
 cases r with
 | val v h=>exact goK_ok hn
 | skip h=>exact goK_ok hn
 | call f args h=>exact (yW1 hT hr false f args h _).then (afterK_ok hn _)
 | yield l args h=>exact (zz0 (C:=C) hT hr (.yield l args h) (fun r=>Kh0 o fr next k r)).then (afterK_ok hn _)
 | panic v h=>exact .self
 | defer f args h =>
  change Nr bot k (match fr.round with
   | some _=>k (.none fr.fn (some o))
   | .none=>match fr.marks with
    | []=>goK o { fr with defers:=(f,args)::fr.defers } next undef h k
    | _=>k (.none fr.fn (some o))) (Yd0 o fr nextR f args h)
  unfold Yd0
  generalize fr.round=o1
  cases o1 with
  | some _=>exact .self
  | none =>
   simp only
   cases hm:fr.marks with
   | nil=>exact goK_ok hn
   | cons a b=>exact .self
 | recover h=>exact .self
 | stuck=>exact .self
theorem zL2 {cn:Bool} {o:Oper} {fr:Fr} {next:Fr→Heap→β} {nextR:Fr→Heap→Res} {h:Heap} {k:Res→β} (hn:∀ fr h,Nr bot k (next fr h) (nextR fr h)):Nr bot k (opK' P E C Tb ih0 bot rec cn o fr next h k) (yf0 E (qp0 C ih0 ih) false o fr nextR (fun v h=>.code (.panic v) fr h) (zc0 C cn (E.lit fr.fn) P E.glob fr.tm h o)):=by
 unfold opK'
 have hok:=zQ2 (P:=P) (C:=C) cn (E.lit fr.fn) E.glob fr.tm h o
 generalize QS0 C cn (E.lit fr.fn) P E.glob fr.tm h o=r at hok
 cases r with
 | val v h1 =>
  rw [show zc0 C cn (E.lit fr.fn) P E.glob fr.tm h o=.val v h1 from hok]
  exact goK_ok hn
 | obl v h1 φ =>
  refine .need fun hφ=>?_
  rw [show zc0 C cn (E.lit fr.fn) P E.glob fr.tm h o=.val v h1 from hok hφ]
  exact goK_ok hn
 | skip h1 =>
  rw [show zc0 C cn (E.lit fr.fn) P E.glob fr.tm h o=.skip h1 from hok]
  exact goK_ok hn
 | no=>exact rsK_ok hT hr hn _
 omit hT hr in theorem lookup_op {o:Oper} {lit:Bool} {tm:T V} {h:Heap} {t:TypeId} {m key:Operand} {ok cn:Bool} (ho:o.op=.lookup t m key ok):zc0 C cn lit P E.glob tm h o=o2 E.glob tm h m key (lookup P h t ok):=by
  have e:qw0 lit P E.glob tm h o=o2 E.glob tm h m key (lookup P h t ok):=by
   rw [zK0 (fun _ _ _ e=>by rw [ho] at e;cases e)]
   unfold qX0;rw [ho];rfl
  cases cn with
  | false=>exact e
  | true =>
   change opC P C E.glob tm o (qw0 lit P E.glob tm h o)=_
   unfold opC;rw [ho];exact e
 omit hT hr in theorem storeK_ok {cn:Bool} {o:Oper} {fr:Fr} {next:Fr→Heap→β} {nextR:Fr→Heap→Res} {h:Heap} {k:Res→β} {d:β} {ihr:Task→Res} (hn:∀ fr h,Nr bot k (next fr h) (nextR fr h)) (hd:Nr bot k d (yf0 E ihr false o fr nextR (fun v h=>.code (.panic v) fr h) (zc0 C cn (E.lit fr.fn) P E.glob fr.tm h o))):Nr bot k (yk1 P E C bot o fr next h k d) (yf0 E ihr false o fr nextR (fun v h=>.code (.panic v) fr h) (zc0 C cn (E.lit fr.fn) P E.glob fr.tm h o)):=by
  unfold yk1
  split
  ·rename_i t a x ho
   split
   ·rename_i r ver off hev
    cases symR C h r with
    | false=>exact hd
    | true =>
     simp only [cond_true]
     split
     ·rename_i v hx
      split
      ·rename_i ver' ty sz pub cap es hg
       refine .need fun hv=>.need fun hs=>?_
       have e0:qw0 (E.lit fr.fn) P E.glob fr.tm h o=ZC0 P E.glob fr.tm h t a x:=by
        rw [zK0 (fun _ _ _ e=>by rw [ho] at e;cases e)]
        unfold qX0;rw [ho];rfl
       have e1:zc0 C cn (E.lit fr.fn) P E.glob fr.tm h o=.skip (h.set r (.row ver ty sz pub cap (qY0 sz es off v))):=by
        have e2:zc0 C cn (E.lit fr.fn) P E.glob fr.tm h o=qw0 (E.lit fr.fn) P E.glob fr.tm h o:=by
         cases cn with
         | false=>rfl
         | true =>
          change opC P C E.glob fr.tm o (qw0 (E.lit fr.fn) P E.glob fr.tm h o)=_
          unfold opC;rw [ho]
        rw [e2,e0]
        unfold ZC0
        rw [hev]
        simp only [hx]
        rw [QU2 hg hv hs]
       rw [e1]
       exact goK_ok hn
      ·exact hd
     ·exact hd
   ·exact hd
  ·exact hd
 omit hT hr in theorem shiftK_ok {cn:Bool} {o:Oper} {fr:Fr} {next:Fr→Heap→β} {nextR:Fr→Heap→Res} {h:Heap} {k:Res→β} {d:β} {ihr:Task→Res} (hn:∀ fr h,Nr bot k (next fr h) (nextR fr h)) (hd:Nr bot k d (yf0 E ihr false o fr nextR (fun v h=>.code (.panic v) fr h) (zc0 C cn (E.lit fr.fn) P E.glob fr.tm h o))):Nr bot k (yh1 E C bot o fr next h k d) (yf0 E ihr false o fr nextR (fun v h=>.code (.panic v) fr h) (zc0 C cn (E.lit fr.fn) P E.glob fr.tm h o)):=by
  unfold yh1
  split
  ·rename_i op t x y c ho
   cases hc:(C.shf fr.fn&&isShr op) with
   | false=>exact hd
   | true =>
    simp only [cond_true]
    split
    ·rename_i kk a hx
     split
     ·rename_i kb b hy
      refine .need fun hφ=>?_
      have hop:op=.shr:=by
       simp only [Bool.and_eq_true] at hc
       revert hc
       cases op <;> intro hc <;> first | rfl | cases hc.2
      subst hop
      have e0:qw0 (E.lit fr.fn) P E.glob fr.tm h o=o2 E.glob fr.tm h x y (binOp P h t (za0 x||za0 y) .shr):=by
       rw [zK0 (fun _ _ _ e=>by rw [ho] at e;cases e)]
       unfold qX0;rw [ho];rfl
      have e2:zc0 C cn (E.lit fr.fn) P E.glob fr.tm h o=qw0 (E.lit fr.fn) P E.glob fr.tm h o:=by
       cases cn with
       | false=>rfl
       | true =>
        change opC P C E.glob fr.tm o (qw0 (E.lit fr.fn) P E.glob fr.tm h o)=_
        unfold opC;rw [ho]
      have e1:zc0 C cn (E.lit fr.fn) P E.glob fr.tm h o=.val (.int kk (a/2^b.toNat)) h:=by
       rw [e2,e0,XE0,hx]
       simp only [hy]
       change qm0 h (bif Zs0 .shr||zy0 kk kb then qQ0 .shr kk a b else none)=_
       change qm0 h (qQ0 .shr kk a b)=_
       rw [hφ];rfl
      rw [e1]
      exact goK_ok hn
     ·exact hd
    ·exact hd
  ·exact hd
 omit hT hr in theorem appK_ok {cn:Bool} {o:Oper} {fr:Fr} {next:Fr→Heap→β} {nextR:Fr→Heap→Res} {h:Heap} {k:Res→β} {d:β} {ihr:Task→Res} (hn:∀ fr h,Nr bot k (next fr h) (nextR fr h)) (hd:Nr bot k d (yf0 E ihr false o fr nextR (fun v h=>.code (.panic v) fr h) (zc0 C cn (E.lit fr.fn) P E.glob fr.tm h o))):Nr bot k (appK P E C o fr next h k d) (yf0 E ihr false o fr nextR (fun v h=>.code (.panic v) fr h) (zc0 C cn (E.lit fr.fn) P E.glob fr.tm h o)):=by
  unfold appK
  split
  ·rename_i c ho
   split
   ·rename_i b hb
    split
    ·split
     ·rename_i x y hm
      split
      ·rename_i t u hty
       split
       ·rename_i sz es
        split
        ·rename_i e he
         cases hc:(C.apf fr.fn&&yo0 P u&&recvA x&&Nat.beq sz (size P e)&&!(Nat.beq (size P e) 0)) with
         | false=>exact hd
         | true =>
          simp only [cond_true]
          cases hes:qn0 es with
          | false=>exact hd
          | true =>
           have hes:es=[]:=by cases es with
            | nil=>rfl
            | cons _ _=>cases hes
           subst hes
           simp only [Bool.and_eq_true,Bool.not_eq_true',Nat.beq_eq] at hc
           obtain ⟨⟨⟨⟨_,c1⟩,c2⟩,c3⟩,c4⟩:=hc
           subst c3
           have e0:qw0 (E.lit fr.fn) P E.glob fr.tm h o=zQ0 P E.glob fr.tm h c:=by
            rw [zK0 (fun _ _ _ e=>by rw [ho] at e;cases e)]
            unfold qX0;rw [ho];rfl
           have e2:zc0 C cn (E.lit fr.fn) P E.glob fr.tm h o=qw0 (E.lit fr.fn) P E.glob fr.tm h o:=by
            cases cn with
            | false=>rfl
            | true =>
             change opC P C E.glob fr.tm o (qw0 (E.lit fr.fn) P E.glob fr.tm h o)=_
             unfold opC;rw [ho]
           have e3:zQ0 P E.glob fr.tm h c=.val x h:=by
            rw [Zp1,hm]
            simp only [hb,hty]
            change (bif yo0 P u then append P t h x (.osl (size P e) []) else _)=_
            rw [c1]
            simp only [cond_true]
            have hn0:newS P h (size P e) (.osl (size P e) [])=some []:=by
             change (bif Nat.beq (size P e) (size P e) then some [] else none)=_
             rw [show Nat.beq (size P e) (size P e)=true by simp];rfl
            rw [yz1 he (Zk1 hn0) c4]
            revert c2
            cases x <;> intro c2 <;> first | rfl | cases c2
           rw [e2,e0,e3]
           exact goK_ok hn
        ·exact hd
       ·exact hd
      ·exact hd
     ·exact hd
    ·exact hd
   ·exact hd
  ·exact hd
theorem Zt1 {cn:Bool} {o:Oper} {fr:Fr} {next:Fr→Heap→β} {nextR:Fr→Heap→Res} {h:Heap} {k:Res→β} (hn:∀ fr h,Nr bot k (next fr h) (nextR fr h)):Nr bot k (opK P E C Tb ih0 bot rec cn o fr next h k) (yf0 E (qp0 C ih0 ih) false o fr nextR (fun v h=>.code (.panic v) fr h) (zc0 C cn (E.lit fr.fn) P E.glob fr.tm h o)):=by
 unfold opK
 split
 ·rename_i t m key ok ho
  rw [lookup_op (P:=P) (E:=E) (cn:=cn) ho,XE0]
  generalize AM.ev E.glob fr.tm m=o1
  cases o1 with
  | none=>exact .self
  | some mv =>
   simp only
   generalize AM.ev E.glob fr.tm key=o2
   cases o2 with
   | none=>exact .self
   | some kv =>
    simp only
    rw [QP1]
    cases lookup P h t ok mv kv with
    | none=>exact .self
    | some v=>exact goK_ok hn
 ·exact shiftK_ok hn (storeK_ok hn (appK_ok hn (zL2 hT hr hn)))
theorem zU2 (all l:List Oper):∀ (fr:Fr) (h:Heap) (k:Res→β),Nr bot k (ZF0 P E C Tb ih0 bot rec false all l fr h k) (Yz0 P E (qp0 C ih0 ih) all l fr h):=by
 induction l with
 | nil=>intro fr h k;exact .self
 | cons o l IH =>
  intro fr h k
  change Nr bot k (match wanted all fr o with
   | none=>k (.none fr.fn (some o))
   | some b=>Bool.rec (goK o fr (fun fr h=>ZF0 P E C Tb ih0 bot rec false all l fr h k) undef h k) (opK P E C Tb ih0 bot rec false o fr (fun fr h=>ZF0 P E C Tb ih0 bot rec false all l fr h k) h k) b) (XQ0 P E (qp0 C ih0 ih) all o (Yz0 P E (qp0 C ih0 ih) all l) fr h)
  unfold XQ0
  cases wanted all fr o with
  | none=>exact .self
  | some b =>
   cases b with
   | false=>exact goK_ok fun fr h=>IH fr h k
   | true=>exact Zt1 (cn:=false) hT hr fun fr h=>IH fr h k
 omit hT hr in theorem preK_ok {o:Oper} {fr:Fr} {h:Heap} {kk:Fr→Heap→β} {σ:Type} {k:σ→β} {f:Fr→Heap→σ} (hk:∀ fr h,Nr bot k (kk fr h) (f fr h)):Nr bot k (preK C bot o fr h kk) (f (yd0 C fr h o).1 (yd0 C fr h o).2):=by
  unfold preK yd0
  cases o.op with
  | store t a v =>
   cases v with
   | tmp i =>
    simp only
    cases C.ps fr.fn t with
    | none=>exact hk fr h
    | some b =>
     simp only
     unfold preF
     cases Nat.blt i fr.n with
     | false=>exact hk fr h
     | true =>
      simp only [cond_true]
      cases jq0 (fr.at' i) with
      | none=>exact hk fr h
      | some v =>
       simp only
       unfold preV
       cases b with
       | false=>exact hk _ _
       | true =>
        refine (zL1 (C:=C) (bot:=bot) (d:=depth) (by decide) h v _).then ?_
        simp only
        cases pub [] depth h v with
        | none=>exact hk fr h
        | some p=>obtain ⟨v',h'⟩:=p;exact hk _ _
   | _=>exact hk fr h
  | _=>exact hk fr h
theorem zT2 (all l:List Oper):∀ (fr:Fr) (h:Heap) (k:Res→β),Nr bot k (ZF0 P E C Tb ih0 bot rec true all l fr h k) (YA0 P E C (qp0 C ih0 ih) all l fr h):=by
 induction l with
 | nil=>intro fr h k;exact .self
 | cons o l IH =>
  intro fr h k
  change Nr bot k (preK C bot o fr h (fun fr h=>match wanted all fr o with
   | none=>k (.none fr.fn (some o))
   | some b=>Bool.rec (goK o fr (fun fr h=>ZF0 P E C Tb ih0 bot rec true all l fr h k) undef h k) (opK P E C Tb ih0 bot rec true o fr (fun fr h=>ZF0 P E C Tb ih0 bot rec true all l fr h k) h k) b)) (JJ0 P E C (qp0 C ih0 ih) all o (YA0 P E C (qp0 C ih0 ih) all l) (yd0 C fr h o).1 (yd0 C fr h o).2)
  refine preK_ok (f:=fun fr h=>JJ0 P E C (qp0 C ih0 ih) all o (YA0 P E C (qp0 C ih0 ih) all l) fr h) fun fr h=>?_
  unfold JJ0
  cases wanted all fr o with
  | none=>exact .self
  | some b =>
   cases b with
   | false=>exact goK_ok fun fr h=>IH fr h k
   | true=>exact Zt1 (cn:=true) hT hr fun fr h=>IH fr h k
 omit hT hr in theorem lookup_opL {o:Oper} {tm:T V} {h:Heap} {t:TypeId} {m key:Operand} {ok:Bool} (ho:o.op=.lookup t m key ok):qx0 P E.glob tm h o=o2 E.glob tm h m key (lookup P h t ok):=by
  have e:qX0 P E.glob tm h o=o2 E.glob tm h m key (lookup P h t ok):=by
   unfold qX0;rw [ho];rfl
  rw [← e]
  unfold qx0
  split
  ·rename_i t len ps e;rw [ho] at e;cases e
  ·rfl
theorem Xh1 (tm:T V) (h:Heap) (o:Oper) (k:Outc→β):Nr bot k (qw1 P E C Tb ih0 bot rec tm h o k) (qv0 P E (qp0 C ih0 ih) tm h o):=by
 unfold qw1 qv0
 have hok:=QJ1 (P:=P) (C:=C) E.glob tm h o
 generalize Jo0 C P E.glob tm h o=r at hok
 cases r with
 | val v h1 =>
  rw [show qx0 P E.glob tm h o=.val v h1 from hok]
  exact .self
 | obl v h1 φ =>
  refine .need fun hφ=>?_
  rw [show qx0 P E.glob tm h o=.val v h1 from hok hφ]
  exact .self
 | skip h1 =>
  rw [show qx0 P E.glob tm h o=.skip h1 from hok]
  exact .self
 | no =>
  simp only
  cases qx0 P E.glob tm h o with
  | call f args h'=>exact (yW1 hT hr true f args h' _).then .self
  | yield l args h'=>exact (zz0 hT hr _ _).then .self
  | _=>exact .self
theorem Xi1 (tm:T V) (h:Heap) (o:Oper) (k:Outc→β):Nr bot k (qv1 P E C Tb ih0 bot rec tm h o k) (qv0 P E (qp0 C ih0 ih) tm h o):=by
 unfold qv1
 split
 ·rename_i t m key ok ho
  unfold qv0
  rw [lookup_opL (P:=P) (E:=E) ho,XE0]
  generalize AM.ev E.glob tm m=o1
  cases o1 with
  | none=>exact .self
  | some mv =>
   simp only
   generalize AM.ev E.glob tm key=o2
   cases o2 with
   | none=>exact .self
   | some kv =>
    simp only
    rw [QP1]
    cases lookup P h t ok mv kv <;> exact .self
 ·exact Xh1 hT hr tm h o k
 omit hT hr in def InvD (P:Program) (E:Env) (ihr:Task→Res) (hs:List Hp) (h:Heap) (rs:List Rc) (ix:List Nat):Prop :=
  ∀ (i:Nat) (r:Rc) (j:Nat),rs[i]?=some r→ix[i]?=some j→j≤hs.length∧(j=hs.length→∃ h',qv0 P E ihr r.tm h r.o=.val r.v h')∧∀ e,j<hs.length→hs[hs.length-1-j]?=some e→∃ h',qv0 P E ihr r.tm e.h r.o=.val r.v h'
 omit hT hr in theorem InvD.write {ihr:Task→Res} {hs:List Hp} {h h':Heap} {rs:List Rc} {ix:List Nat} (hi:InvD P E ihr hs h rs ix) (e:Hp) (he:e.h=h):InvD P E ihr (e::hs) h' rs ix:=fun i r j p q=>by
  obtain ⟨h1,h2,h3⟩:=hi i r j p q
  refine ⟨by simp only [List.length_cons];omega,fun w=>by simp only [List.length_cons] at w;omega,fun x hx hx'=>?_⟩
  simp only [List.length_cons,Nat.add_sub_cancel] at hx hx'
  rcases Nat.lt_or_ge j hs.length with w | w
  ·refine h3 x w ?_
   rw [show hs.length-j=(hs.length-1-j)+1 by omega,List.getElem?_cons_succ] at hx'
   exact hx'
  ·have:j=hs.length:=by omega
   subst this
   rw [Nat.sub_self] at hx'
   simp at hx'
   subst hx'
   rw [he];exact h2 rfl
 omit hT hr in theorem InvD.read {ihr:Task→Res} {hs:List Hp} {h:Heap} {rs:List Rc} {ix:List Nat} (hi:InvD P E ihr hs h rs ix) (r:Rc) (hd:∃ h',qv0 P E ihr r.tm h r.o=.val r.v h'):InvD P E ihr hs h (r::rs) (List.len hs::ix):=fun i r' j p q=>by
  cases i with
  | zero =>
   simp at p q
   subst p;subst q
   rw [List.len_eq]
   exact ⟨Nat.le_refl _,fun _=>hd,fun x w=>absurd w (Nat.lt_irrefl _)⟩
  | succ i=>exact hi i r' j (by simpa using p) (by simpa using q)
 omit hT hr in def EndD (P:Program) (E:Env) (ihr:Task→Res) (r:DR) (ix:List Nat):Prop :=
  match r with
  | .done _ _ hps rcs _=>∀ (i:Nat) (r:Rc) (j:Nat) (e:Hp),rcs[i]?=some r→ix[i]?=some j→j<hps.length→hps[hps.length-1-j]?=some e→∃ h',qv0 P E ihr r.tm e.h r.o=.val r.v h'
  | .stuck _=>True
 omit hT hr in def NrD (P:Program) (E:Env) (ihr:Task→Res) (bot:β) (kk:DR→List Nat→β) (e:β) (r:DR):Prop:=e=bot∨∃ ix,e=kk r ix∧EndD P E ihr r ix
 omit hT hr in theorem NrD.stuck {ihr:Task→Res} {kk:DR→List Nat→β} {o:Option Oper} {ix:List Nat}:NrD P E ihr bot kk (kk (.stuck o) ix) (.stuck o):=.inr ⟨ix,rfl,trivial⟩
 omit hT hr in theorem dPutK_D {ihr:Task→Res} {o:Oper} {v:V} {fr:Fr} {next:Fr→β} {nextR:Fr→DR} {kk:DR→List Nat→β} {ix:List Nat} (hn:∀ fr,NrD P E ihr bot kk (next fr) (nextR fr)):NrD P E ihr bot kk (YX0 o v fr next (fun r=>kk r ix)) (Zk0 o v fr nextR):=by
  unfold YX0 Zk0
  rw [Yk1]
  cases fr.put o.dst v with
  | none=>exact .stuck
  | some fr'=>exact hn fr'
 omit hT hr in theorem dValK_ok {ihr:Task→Res} {d:DOp} {next:Fr→Heap→Nat→List Hp→List Rc→Option Pn→List Nat→β} {nextR:DK} {kk:DR→List Nat→β} (hn:∀ fr h pb hs rs pan ix,InvD P E ihr hs h rs ix→NrD P E ihr bot kk (next fr h pb hs rs pan ix) (nextR fr h pb hs rs pan)) (fr:Fr) (h:Heap) (pb:Nat) (hs:List Hp) (rs:List Rc) (pan:Option Pn) (ix:List Nat) (hi:InvD P E ihr hs h rs ix) (r:Outc) (hr:qv0 P E ihr fr.tm h d.o=r) :
  NrD P E ihr bot kk (Ky0 E d next fr h pb hs rs pan ix kk r) (dVal E d nextR fr h pb hs rs pan r):=by
  unfold Ky0 dVal
  cases r with
  | val v h' =>
   simp only
   cases d.w with
   | true =>
    cases zs0 pan with
    | true=>exact dPutK_D (o:=d.o) (v:=v) (fr:=fr) (ix:=ix) fun fr'=>hn fr' h' d.b (⟨pb,h,some d.i⟩::hs) rs pan ix (hi.write ⟨pb,h,some d.i⟩ rfl)
    | false=>exact .stuck
   | false =>
    refine dPutK_D fun fr'=>hn _ _ _ _ _ _ _ ?_
    cases zZ0 E d.o.op with
    | true=>exact hi
    | false=>exact hi.read ⟨d.o,d.i,d.b,fr.tm,v⟩ ⟨h',hr⟩
  | panic v h' =>
   simp only
   cases (d.w&&zs0 pan) with
   | true=>exact hn _ _ _ _ _ _ _ (hi.write _ rfl)
   | false=>exact .stuck
  | stuck=>exact .stuck
theorem Xa1 (all:List Oper) (l:List DOp):∀ (fr:Fr) (h:Heap) (pb:Nat) (hs:List Hp) (rs:List Rc) (pan:Option Pn) (ix:List Nat) (kk:DR→List Nat→β),InvD P E (qp0 C ih0 ih) hs h rs ix→NrD P E (qp0 C ih0 ih) bot kk (Xh0 P E C Tb ih0 bot rec all l fr h pb hs rs pan ix kk) (je0 P E (qp0 C ih0 ih) all l fr h pb hs rs pan):=by
 induction l with
 | nil =>
  intro fr h pb hs rs pan ix kk hi
  refine .inr ⟨ix,rfl,?_⟩
  change EndD P E (qp0 C ih0 ih) (.done fr h (bif zs0 pan then ⟨pb,h,none⟩::hs else hs) rs pan) ix
  intro i r j e p q w hx
  cases hp:zs0 pan with
  | true =>
   rw [hp] at w hx
   exact (hi.write (h':=h) ⟨pb,h,none⟩ rfl i r j p q).2.2 e w hx
  | false =>
   rw [hp] at w hx
   exact (hi i r j p q).2.2 e w hx
 | cons d l IH =>
  intro fr h pb hs rs pan ix kk hi
  change NrD P E (qp0 C ih0 ih) bot kk (qt1 P E C Tb ih0 bot rec all d (fun fr h pb hs rs pan ix=>Xh0 P E C Tb ih0 bot rec all l fr h pb hs rs pan ix kk) fr h pb hs rs pan ix kk) (Xi0 P E (qp0 C ih0 ih) all d (je0 P E (qp0 C ih0 ih) all l) fr h pb hs rs pan)
  unfold qt1 Xi0
  cases XI0 pan d.b with
  | true=>exact IH _ _ _ _ _ _ _ _ hi
  | false =>
   simp only [cond_false]
   cases wanted all fr d.o with
   | none=>exact .stuck
   | some t =>
    cases t with
    | true =>
     simp only [cond_true]
     rcases Xi1 (C:=C) hT hr fr.tm h d.o (fun r=>Ky0 E d (fun fr h pb hs rs pan ix=>Xh0 P E C Tb ih0 bot rec all l fr h pb hs rs pan ix kk) fr h pb hs rs pan ix kk r) with q | q
     ·exact .inl q
     ·rw [q]
      exact dValK_ok (fun fr h pb hs rs pan ix hi=>IH fr h pb hs rs pan ix kk hi) fr h pb hs rs pan ix hi _ rfl
    | false =>
     simp only [cond_false]
     cases d.w with
     | true =>
      cases zs0 pan with
      | true=>exact dPutK_D (o:=d.o) (v:=undef) (fr:=fr) (ix:=ix) fun fr'=>IH fr' h d.b (⟨pb,h,some d.i⟩::hs) rs pan ix kk (hi.write ⟨pb,h,some d.i⟩ rfl)
      | false=>exact .stuck
     | false=>exact dPutK_D (o:=d.o) (v:=undef) (fr:=fr) (ix:=ix) fun fr'=>IH fr' h pb hs rs pan ix kk hi
 omit hT hr in theorem orD_self {b:Bool} {p:Prop} (h:p):orD b p=true:=by
  unfold orD
  cases b with
  | true=>rfl
  | false=>exact @decide_eq_true p (Classical.propDecidable p) h
 omit hT hr in theorem ckOneK_ok {ihr:Task→Res} (r:Rc) (e:Hp) (x:β):YW0 P E C bot r e x=bot∨(YW0 P E C bot r e x=x∧jd0 P E ihr r e=true):=by
  unfold YW0 jd0
  cases tb e.pb r.i with
  | true=>exact .inr ⟨rfl,rfl⟩
  | false =>
   cases QQ0 r.b e.nx with
   | true=>exact .inr ⟨rfl,rfl⟩
   | false =>
    simp only [cond_false]
    unfold je1
    split
    ·rename_i t m key ok ho
     unfold qv0
     rw [lookup_opL (P:=P) (E:=E) ho,XE0]
     generalize AM.ev E.glob r.tm m=o1
     cases o1 with
     | none=>exact .inl rfl
     | some mv =>
      simp only
      generalize AM.ev E.glob r.tm key=o2
      cases o2 with
      | none=>exact .inl rfl
      | some kv =>
       simp only
       rcases Yr0 (bot:=bot) (φ:=lookup P e.h t ok mv kv=some r.v) (x:=x) with q | ⟨hv,q⟩
       ·exact .inl q
       ·rw [q,hv];exact .inr ⟨rfl,orD_self rfl⟩
    unfold jf1
    have hok:=QJ1 (P:=P) (C:=C) E.glob r.tm e.h r.o
    unfold qv0
    generalize Jo0 C P E.glob r.tm e.h r.o=q at hok
    cases q with
    | val v h1 =>
     rw [show qx0 P E.glob r.tm e.h r.o=.val v h1 from hok]
     simp only
     rcases Yr0 (bot:=bot) (φ:=r.v=v) (x:=x) with q | ⟨hv,q⟩
     ·exact .inl q
     ·rw [q];exact .inr ⟨rfl,orD_self hv⟩
    | obl v h1 φ =>
     simp only
     rcases Yr0 (bot:=bot) (φ:=φ) (x:=need bot (r.v=v) x) with q | ⟨hφ,q⟩
     ·exact .inl q
     ·rw [q,show qx0 P E.glob r.tm e.h r.o=.val v h1 from hok hφ]
      rcases Yr0 (bot:=bot) (φ:=r.v=v) (x:=x) with q | ⟨hv,q⟩
      ·exact .inl q
      ·rw [q];exact .inr ⟨rfl,orD_self hv⟩
    | skip h1 =>
     rw [show qx0 P E.glob r.tm e.h r.o=.skip h1 from hok]
     simp only
     rcases Yr0 (bot:=bot) (φ:=r.v=undef) (x:=x) with q | ⟨hv,q⟩
     ·exact .inl q
     ·rw [q];exact .inr ⟨rfl,orD_self hv⟩
    | no=>exact .inl rfl
 omit hT hr in theorem ckOne_here {ihr:Task→Res} {r:Rc} {e:Hp} (h:∃ h',qv0 P E ihr r.tm e.h r.o=.val r.v h'):jd0 P E ihr r e=true:=by
  obtain ⟨h',hd⟩:=h
  unfold jd0
  rw [hd]
  change (bif tb e.pb r.i then true else bif QQ0 r.b e.nx then true else orD (veq depth r.v r.v) (r.v=r.v))=true
  rw [orD_self (b:=veq depth r.v r.v) (p:=r.v=r.v) rfl]
  cases tb e.pb r.i <;> cases QQ0 r.b e.nx <;> rfl
 omit hT hr in theorem ckRowK_ok {ihr:Task→Res} (r:Rc) (j:Option Nat) (x:β):∀ (hps:List Hp),(∀ q e,j=some q→q<hps.length→hps[hps.length-1-q]?=some e→∃ h',qv0 P E ihr r.tm e.h r.o=.val r.v h')→yR0 P E C bot r j hps x=bot∨(yR0 P E C bot r j hps x=x∧zh0 (jd0 P E ihr r) hps=true):=by
  intro hps
  induction hps with
  | nil=>intro _;exact .inr ⟨rfl,rfl⟩
  | cons e l IH =>
   intro hj
   have IH':=IH fun q e' hq hl he=>hj q e' hq (by simp only [List.length_cons];omega) (by
    simp only [List.length_cons,Nat.add_sub_cancel]
    rw [show l.length-q=(l.length-1-q)+1 by omega,List.getElem?_cons_succ];exact he)
   change (bif yW0 j (some (List.len l)) then yR0 P E C bot r j l x else YW0 P E C bot r e (yR0 P E C bot r j l x))=bot∨((bif yW0 j (some (List.len l)) then yR0 P E C bot r j l x else YW0 P E C bot r e (yR0 P E C bot r j l x))=x∧(bif jd0 P E ihr r e then zh0 (jd0 P E ihr r) l else false)=true)
   cases hb:yW0 j (some (List.len l)) with
   | true =>
    have hj2:=Gn0 _ _ hb
    rw [List.len_eq] at hj2
    have:=ckOne_here (hj l.length e hj2 (by simp) (by simp))
    rw [this]
    exact IH'
   | false =>
    simp only [cond_false]
    rcases ckOneK_ok (C:=C) (ihr:=ihr) r e (yR0 P E C bot r j l x) with h | ⟨h1,h2⟩
    ·exact .inl h
    ·rw [h1,h2]
     exact IH'
 omit hT hr in theorem ckAllK_ok {ihr:Task→Res} (hps:List Hp) (x:β) (rcs:List Rc):∀ (ix:List Nat),(∀ (i:Nat) (r:Rc) (j:Nat) (e:Hp),rcs[i]?=some r→ix[i]?=some j→j<hps.length→hps[hps.length-1-j]?=some e→∃ h',qv0 P E ihr r.tm e.h r.o=.val r.v h')→YV0 P E C bot hps rcs x ix=bot∨(YV0 P E C bot hps rcs x ix=x∧Yb0 P E ihr hps rcs=true):=by
  induction rcs with
  | nil=>intro ix _;exact .inr ⟨rfl,rfl⟩
  | cons r l IH =>
   intro ix hx
   have key:∀ j ix',(∀ q e,j=some q→q<hps.length→hps[hps.length-1-q]?=some e→∃ h',qv0 P E ihr r.tm e.h r.o=.val r.v h')→(∀ (i:Nat) (r:Rc) (j:Nat) (e:Hp),l[i]?=some r→ix'[i]?=some j→j<hps.length→hps[hps.length-1-j]?=some e→∃ h',qv0 P E ihr r.tm e.h r.o=.val r.v h')→yR0 P E C bot r j hps (YV0 P E C bot hps l x ix')=bot∨(yR0 P E C bot r j hps (YV0 P E C bot hps l x ix')=x∧Yb0 P E ihr hps (r::l)=true):=fun j ix' h1 h2=>by
    rcases ckRowK_ok (C:=C) r j (YV0 P E C bot hps l x ix') hps h1 with h | ⟨h3,h4⟩
    ·exact .inl h
    ·rcases IH ix' h2 with h | ⟨h5,h6⟩
     ·left;rw [h3,h]
     ·right
      refine ⟨h3.trans h5,?_⟩
      change (bif zh0 (jd0 P E ihr r) hps then Yb0 P E ihr hps l else false)=true
      rw [h4,h6];rfl
   cases ix with
   | nil=>exact key none [] (fun q e hq=>by cases hq) (fun i r' j e _ q=>by simp at q)
   | cons j ix=>exact key (some j) ix (fun q e hq hl he=>by cases hq;exact hx 0 r j e rfl rfl hl he) (fun i r' j' e p q=>hx (i+1) r' j' e (by simpa using p) (by simpa using q))
theorem Xn1 (all:List Oper) (fr:Fr) (h:Heap) (k:Res→β):Nr bot k (qy1 P E C Tb ih0 bot rec all fr h k) (XV0 P E (qp0 C ih0 ih) all fr h):=by
 unfold qy1 XV0
 generalize (bif P.follows .mixedOrders then Ye0 E all else none)=o1
 cases o1 with
 | none=>exact .self
 | some l =>
  change Nr bot k (Xh0 P E C Tb ih0 bot rec all l fr h 0 [] [] none [] (fun r ix=>KA0 P E C bot l fr.fn k r ix)) (Kz0 P E (qp0 C ih0 ih) l fr.fn (je0 P E (qp0 C ih0 ih) all l fr h 0 [] [] none))
  rcases Xa1 (C:=C) hT hr all l fr h 0 [] [] none [] (fun r ix=>KA0 P E C bot l fr.fn k r ix) (fun i r j p=>by simp at p) with q | ⟨ix,q,hE⟩
  ·exact .inl q
  rw [q]
  generalize je0 P E (qp0 C ih0 ih) all l fr h 0 [] [] none=r at hE
  unfold KA0 Kz0
  cases r with
  | stuck o=>exact .self
  | done fr' h' hps rcs pan =>
   simp only
   cases QP0 l with
   | true=>cases pan <;> exact .self
   | false =>
    simp only [cond_false,Bool.false_or]
    have hE':∀ (i:Nat) (r:Rc) (j:Nat) (e:Hp),rcs[i]?=some r→ix[i]?=some j→j<hps.length→hps[hps.length-1-j]?=some e→∃ h',qv0 P E (qp0 C ih0 ih) r.tm e.h r.o=.val r.v h':=hE
    clear hE
    rcases ckAllK_ok (C:=C) (P:=P) (E:=E) (bot:=bot) (ihr:=qp0 C ih0 ih) hps (match pan with
     | none=>k (.code .normal fr' h')
     | some p=>k (.code (.panic p.v) (zJ0 l fr') p.h)) rcs ix hE' with q | ⟨q1,q2⟩
    ·exact .inl q
    ·rw [q1,q2]
     cases pan <;> exact .self
theorem Yc1 (b:Code) (k:Res→β) (r:Res):Nr bot k (seqK C Tb ih0 bot rec b k r) (ZL0 (qp0 C ih0 ih) b r):=by
 cases r with
 | code e fr h=>cases e <;> first | exact zz0 (C:=C) hT hr (.code b fr h) k | exact .self
 | _=>exact .self
theorem Ql2 (b:Code) (k:Res→β) (r:Res):Nr bot k (seqL C Tb ih0 bot rec b k r) (ZL0 (ihL C (qp0 C ih0 ih)) b r):=by
 cases r with
 | code e fr h=>cases e <;> first | exact (zz0 (C:=C) hT hr (.code b fr h) (fun r=>Js0 C bot h.n (C.live fr.fn b) k r)).then (zq1 _ _ _ _) | exact .self
 | _=>exact .self
theorem Ke1 (lid:Nat) (fr:Fr) (k:Res→β) (r:Res):Nr bot k (KB0 C Tb ih0 bot rec lid fr k r) (endLoop (qp0 C ih0 ih) lid fr r):=by
 cases r with
 | ret v h =>
  unfold KB0 endLoop
  simp only
  cases h.get lid with
  | loop st pending fn n tm ps a b d =>
   cases st <;> cases pending <;> first | exact zz0 (C:=C) hT hr (.code _ fr _) k | exact .self
  | _=>exact .self
 | _=>exact .self
theorem yN2 (f:Operand) (params:Array Tmp) (assign body:Code) (fr:Fr) (h:Heap) (k:Res→β):Nr bot k (zO1 P E C Tb ih0 bot rec f params assign body fr h k) (XW0 P E (qp0 C ih0 ih) f params assign body fr h):=by
 unfold zO1 XW0
 generalize ev E.glob fr.tm f=o1
 cases o1 with
 | none=>exact .self
 | some fv =>
  simp only
  generalize YY0 fr h=o2
  cases o2 with
  | none=>exact .self
  | some p =>
   obtain ⟨d,marks,h1⟩:=p
   simp only
   generalize Zi0 P (h1.new (.loop .ready .none fr.fn fr.n fr.tm params.toList assign body d)) fv [.func (.yield h1.n) [] []]=o3
   cases o3 with
   | call g args h2 =>
    simp only
    cases E.shared g with
    | true=>exact (zz0 (C:=C) hT hr (.call g args h2) (fun r=>KB0 C Tb ih0 bot rec h1.n { fr with marks:=marks } k r)).then (Ke1 hT hr _ _ _ _)
    | false=>exact .self
   | _=>exact .self
theorem JQ1 (c:Code) (fr:Fr) (h:Heap) (k:Res→β):Nr bot k (codeK P E C Tb ih0 bot rec c fr h k) (GP0 P E C (qp0 C ih0 ih) (.code c fr h)):=by
 cases c with
 | region id ops draw =>
  cases draw with
  | true=>exact Xn1 hT hr ops.toList fr h k
  | false=>exact zT2 hT hr _ _ _ _ _
 | seq a b=>exact (zz0 (C:=C) hT hr (.code a fr h) (fun r=>seqK C Tb ih0 bot rec b k r)).then (Yc1 hT hr b k _)
 | cond c a b =>
  change Nr bot k (match ev E.glob fr.tm c with
   | some (.bool t)=>Bool.rec (qW0 C Tb ih0 bot rec (.code b fr h) k) (qW0 C Tb ih0 bot rec (.code a fr h) k) t
   | _=>k (.none fr.fn .none)) (XT0 E (qp0 C ih0 ih) c a b fr h)
  unfold XT0
  generalize ev E.glob fr.tm c=o1
  cases o1 with
  | none=>exact .self
  | some v =>
   cases v with
   | bool t=>cases t <;> exact zz0 (C:=C) hT hr (.code _ fr h) k
   | _=>exact .self
 | block id b=>exact (zz0 (C:=C) hT hr (.code b fr h) (fun r=>k (XR0 id r))).then .self
 | loop b=>exact (zz0 (C:=C) hT hr (.code b fr h) (fun r=>Js0 C bot h.n (C.live fr.fn b) (fun r=>seqL C Tb ih0 bot rec (.loop b) k r) r)).then ((zq1 _ _ _ _).then (Ql2 hT hr (.loop b) k _))
 | rangeFunc f params assign body=>exact yN2 hT hr _ _ _ _ _ _ _
 | scope b=>exact zz0 (C:=C) hT hr (.code b fr h) k
 | _=>exact .self
theorem jg2 (f:FuncId) (fn:Func) (fr:Fr) (l:List (FuncId×List V)):∀ (p:Option V) (h:Heap) (k:Res→β),Nr bot k (ZQ1 P C Tb ih0 bot rec f fn fr l p h k) (XP0 P (qp0 C ih0 ih) f fn fr l p h):=by
 induction l with
 | nil=>intro p h k;exact .self
 | cons d l IH =>
  intro p h k
  refine (zz0 (C:=C) hT hr (.dcall d.1 d.2 p h) _).then ?_
  change Nr bot k _ (match qp0 C ih0 ih (.dcall d.1 d.2 p h) with
   | .dret _ h'=>XP0 P (qp0 C ih0 ih) f fn fr l .none h'
   | .none a b=>.none a b
   | _=>.none f .none)
  cases qp0 C ih0 ih (.dcall d.1 d.2 p h) with
  | dret _ h'=>exact IH _ _ _
  | _=>exact .self
theorem Kd1 (f:FuncId) (fn:Func) (k:Res→β) (r:Res):Nr bot k (qD1 P C Tb ih0 bot rec f fn k r) (qC1 P (qp0 C ih0 ih) f fn r):=by
 have body:∀ fr p h,Nr bot k (Xj0 P C Tb ih0 bot rec f fn fr p h k) (Yg0 P (qp0 C ih0 ih) f fn fr p h):=fun fr p h=>by
  unfold Xj0 Yg0
  generalize Jn0 fr.marks h=o1
  cases o1 with
  | none=>exact .self
  | some h'=>exact jg2 hT hr _ _ _ _ _ _ _
 cases r with
 | code e fr h=>cases e <;> first | exact body _ _ _ | exact .self
 | _=>exact .self
theorem JF1 (f:FuncId) (args:List V) (h:Heap) (k:Res→β):Nr bot k (callK P C Tb ih0 bot rec f args h k) (XS0 P E (qp0 C ih0 ih) f args h):=by
 unfold callK XS0
 generalize P.funcs[f]?=o1
 cases o1 with
 | none=>exact .self
 | some fn =>
  simp only
  cases fn.body with
  | none =>
   simp only
   generalize Xo0 P fn args h=o2
   cases o2 <;> exact .self
  | some body =>
   simp only
   cases Nat.ble (List.len args) fn.ntmps with
   | false=>exact .self
   | true=>exact (zz0 (C:=C) hT hr (.code body ⟨f,fn.ntmps,yL0 args 0 (yA0 (ym0 fn.ntmps)),[],[],.none,.none,false⟩ h) (fun r=>qD1 P C Tb ih0 bot rec f fn k r)).then (Kd1 hT hr f fn k _)
theorem Jq1 (l:Nat) (body:Code) (k:Res→β) (r:Res):Nr bot k (Kn0 C Tb ih0 bot rec l body k r) (ye1 (qp0 C ih0 ih) l body r):=by
 cases r with
 | code e fr h =>
  cases e with
  | normal =>
   unfold Kn0 ye1
   simp only
   cases h.get l with
   | loop st pend fn n tm ps a b d=>cases st <;> first | exact zz0 (C:=C) hT hr (.code body fr (h.set l (.loop .busy pend fn n tm ps a b d))) k | exact .self
   | _=>exact .self
  | _=>exact .self
 | _=>exact .self
theorem ZN2 (l:Nat) (args:List V) (h:Heap) (k:Res→β):Nr bot k (yt1 C Tb ih0 bot rec l args h k) (XX0 (qp0 C ih0 ih) l args h):=by
 unfold yt1 XX0
 cases h.get l with
 | loop st pend fn n tm ps assign body d =>
  simp only
  generalize XY0 ps n args tm=o1
  cases o1 with
  | none=>exact .self
  | some tm'=>exact (zz0 (C:=C) hT hr (.code assign ⟨fn,n,tm',[],[],some l,.none,false⟩ h) (fun r=>Kn0 C Tb ih0 bot rec l body (fun r2=>k (endRound l r2)) r)).then ((Jq1 hT hr l body (fun r2=>k (endRound l r2)) _).then .self)
 | _=>exact .self
theorem Xd1 (f:FuncId) (args:List V) (p:Option V) (h:Heap) (k:Res→β):Nr bot k (qu1 P E C Tb ih0 bot rec f args p h k) (XU0 P E (qp0 C ih0 ih) f args p h):=by
 unfold qu1 XU0
 generalize P.funcs[f]?=o1
 cases o1 with
 | none=>exact .self
 | some fn =>
  simp only
  generalize fn.body=bd
  cases bd with
  | none=>exact .self
  | some c =>
   cases c with
   | seq a rest =>
    cases a with
    | region id ops draw =>
     cases draw with
     | true=>exact .self
     | false =>
      simp only
      generalize ops.toList=l0
      cases l0 with
      | nil=>exact .self
      | cons o l =>
       simp only
       cases (Yo0 o&&qn0 fn.results.toList&&Nat.ble (List.len args) fn.ntmps) with
       | false=>exact .self
       | true =>
        simp only [cond_true]
        generalize Fr.put ⟨f,fn.ntmps,yL0 args 0 (yA0 (ym0 fn.ntmps)),[],[],.none,.none,false⟩ o.dst (Go0 p)=o2
        cases o2 with
        | some fr1=>exact (zU2 hT hr (o::l) l fr1 h (fun r=>seqK C Tb ih0 bot rec rest (fun r2=>k (Xk0 f r2)) r)).then ((Yc1 hT hr rest (fun r2=>k (Xk0 f r2)) _).then .self)
        | none=>exact .self
    | _=>exact .self
   | _=>exact .self
theorem QK2 (t:Task) (k:Res→β):Nr bot k (stepK P E C Tb ih0 bot rec t k) (GP0 P E C (qp0 C ih0 ih) t):=by
 cases t with
 | code c fr h=>exact JQ1 hT hr c fr h k
 | call f args h=>exact JF1 (E:=E) hT hr f args h k
 | yield l args h=>exact ZN2 hT hr l args h k
 | dcall f args p h=>exact Xd1 hT hr f args p h k
end ok
theorem evT_ok {P:Program} {E:Env} {C:Cf} {Tb:Task→Option Ent} {ih0:Task→Res} {β:Type} {bot:β} (hT:ZU0 ih0 Tb) (m:Nat):∀ t k,Nr bot k (evT P E C Tb ih0 bot m t k) (inn P E C ih0 m t):=by
 induction m with
 | zero=>intro t k;exact .self
 | succ m IH=>intro t k;exact QK2 hT IH t k
def exR {α ε:Type} (R:α→Res) (Q:ε→Res) (r:Res):PR α ε :=
 @dite (PR α ε) (∃ a,r=R a) (Classical.propDecidable _) (fun h=>.ok (Classical.choose h)) (fun _=>@dite (PR α ε) (∃ n,r=Q n) (Classical.propDecidable _) (fun h=>.er (Classical.choose h)) (fun _=>.no))
theorem Xn0 {α ε:Type} (s t:α→Bool) (R:Bool→Bool→α→Res) (Q:ε→Res) (r:Res):exR (fun a=>R (s a) (t a) a) Q r=.no∨Ent.res ⟨α,ε,exR (fun a=>R (s a) (t a) a) Q r,s,t,R,Q⟩=r:=by
 unfold exR Ent.res
 simp only
 by_cases h1:∃ a,r=R (s a) (t a) a
 ·rw [dif_pos h1];exact .inr (Classical.choose_spec h1).symm
 ·rw [dif_neg h1]
  by_cases h2:∃ n,r=Q n
  ·rw [dif_pos h2];exact .inr (Classical.choose_spec h2).symm
  ·rw [dif_neg h2];exact .inl rfl
theorem qI1 {α ε:Type} {R:α→Res} {Q:ε→Res} (hR:∀ a b,R a=R b→a=b) (a:α):exR R Q (R a)=.ok a:=by
 unfold exR
 have h1:∃ b,R a=R b:=⟨a,rfl⟩
 rw [dif_pos h1,← hR _ _ (Classical.choose_spec h1)]
theorem exR_Q {α ε:Type} {R:α→Res} {Q:ε→Res} (hQ:∀ a b,Q a=Q b→a=b) (hn:∀ a n,Q n≠R a) (n:ε):exR R Q (Q n)=.er n:=by
 unfold exR
 have h1:¬ ∃ b,Q n=R b:=fun ⟨b,e⟩=>hn b n e
 have h2:∃ b,Q n=Q b:=⟨n,rfl⟩
 rw [dif_neg h1,dif_pos h2,← hQ _ _ (Classical.choose_spec h2)]
def PR.bnd {α ε β:Type} (bot:β) (x:PR α ε) (f:α→β) (g:ε→β):β:=PR.rec (motive:=fun _=>β) bot f g x
def evN (P:Program) (E:Env) (C:Cf) (Tb:Task→Option Ent) (ih0:Task→Res) {β:Type} (bot:β) (t:Task) (k:Res→β):β:=evT P E C Tb ih0 bot 64 t (fun r=>match r with
 | .none _ _=>bot
 | r=>finK C bot t k r)
theorem KD0 {P:Program} {E:Env} {C:Cf} {Tb:Task→Option Ent} {n:Nat} {β:Type} {bot:β} (hT:ZU0 (rn P E C n) Tb) (t:Task) (k:Res→β):Nr bot k (evN P E C Tb (rn P E C n) bot t k) (rn P E C (n+1) t):=by
 refine (evT_ok hT 64 t _).then ?_
 generalize hr:inn P E C (rn P E C n) 64 t=r
 have e:rn P E C (n+1) t=finT C t r:=by rw [← hr];rfl
 rw [e]
 cases r with
 | none a b=>exact .inl rfl
 | _=>exact Gn1 t k _
end
end Go.AM
