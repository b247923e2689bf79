/-
  AN ABSTRACT MACHINE that runs a program over plain data, and a second one that tells what calls come to, are sound against the model (a part of it). No condition but what each theorem says.
-/
import Derived.Test.YtjdahgihdceebaaGreatDoorFd4
namespace Go.AM
noncomputable section
open Go.RowKit
def asInt:V→Int
 | .int _ n=>n
 | _=>0
def asStr:V→List UInt8
 | .str s=>s
 | _=>[]
def asBool:V→Bool
 | .bool b=>b
 | _=>false
def asEs:V→List V
 | .osl _ es=>es
 | _=>[]
def YO0 (sz:Nat) (es:List V) (off i:Nat):V:=((es.getD (off/sz) undef).cells).getD (off%sz+i) undef
def gI (sz:Nat) (es:List V) (off i:Nat):Int:=asInt (YO0 sz es off i)
def gS (sz:Nat) (es:List V) (off i:Nat):List UInt8:=asStr (YO0 sz es off i)
def gB (sz:Nat) (es:List V) (off i:Nat):Bool:=asBool (YO0 sz es off i)
def gE (sz:Nat) (es:List V) (off i:Nat):List V:=asEs (YO0 sz es off i)
def etaC (P:Program) (t:TypeId) (sz:Nat) (es:List V) (off i:Nat):Option V :=
 match P.underlying t with
 | some (.int k)=>some (.int k (gI sz es off i))
 | some .string=>some (.str (gS sz es off i))
 | some .bool=>some (.bool (gB sz es off i))
 | some (.slice e)=>some (.osl (size P e) (gE sz es off i))
 | _=>none
def etaL (P:Program) (sz:Nat) (es:List V) (off:Nat) (ts:List TypeId):Nat→Option (List V) :=
 List.rec (motive:=fun _=>Nat→Option (List V)) (fun _=>some []) (fun t _ ih i=>match etaC P t sz es off i with
  | some c=>(match ih (Nat.succ i) with
   | some l=>some (c::l)
   | none=>none)
  | none=>none) ts
def zz0 (P:Program) (t:TypeId) (sz:Nat) (es:List V) (off:Nat):Option V :=
 match zz1 P 6 t with
 | some ts=>(match etaL P sz es off ts 0 with
  | some cs=>yr0 P t cs
  | none=>none)
 | none=>none
def ldX (P:Program) (t:TypeId) (sz:Nat) (es:List V) (off:Nat):Prop:=load P Heap.empty t (.gptr sz es off)=zz0 P t sz es off
def symR (C:Cf) (h:Heap) (r:Nat):Bool:=match h.get r with
 | .row _ ty _ _ cap _=>bif jr0 cap then C.srow ty else false
 | _=>false
def Xw0 (P:Program) (C:Cf) (h:Heap) (t:TypeId) (a:V) (d:So):So :=
 match a with
 | .ptr r ver off=>bif symR C h r then (match h.get r with
  | .row ver' _ sz _ _ es=>(match zz0 P t sz es off with
   | some v=>.obl v h (ver=ver'∧ldX P t sz es off)
   | none=>.no)
  | _=>.no) else d
 | _=>d
theorem QK1 (P:Program) (C:Cf) (h:Heap) (t:TypeId) (a:V) {d:So} (hd:So.ok (ql0 h (load P h t a)) d):So.ok (ql0 h (load P h t a)) (Xw0 P C h t a d):=by
 unfold Xw0
 split
 ·rename_i r ver off
  cases symR C h r with
  | false=>exact hd
  | true =>
   simp only [cond_true]
   split
   ·rename_i ver' ty sz pub cap es hg
    split
    ·rename_i v hv
     rintro ⟨rfl,hl⟩
     have e:load P h t (.ptr r ver off)=load P Heap.empty t (.gptr sz es off):=by
      unfold load
      simp only [hg]
      rw [show Nat.beq ver ver=true by simp]
      rfl
     have hl:load P Heap.empty t (.gptr sz es off)=zz0 P t sz es off:=hl
     rw [e,hl,hv];rfl
    ·trivial
   ·trivial
 ·exact hd
def Jo0 (P:Program) (C:Cf) (h:Heap) (t:TypeId) (a:V):So :=
 match a with
 | .gptr sz es off=>(match zz0 P t sz es off with
  | some v=>.obl v h (ldX P t sz es off)
  | none=>.no)
 | a=>Xw0 P C h t a (ofO h (load P h t a))
def ZB0 (P:Program) (t:TypeId) (sz:Nat) (es:List V) (off:Nat):Option V :=
 match load P Heap.empty t (.gptr sz es off) with
 | some v=>some (yi0 P t v)
 | none=>none
def ldC (P:Program) (t:TypeId) (sz:Nat) (es:List V) (off:Nat):Prop:=ZB0 P t sz es off=zz0 P t sz es off
def Jn0 (P:Program) (C:Cf) (h:Heap) (t:TypeId) (a:V):So :=
 match a with
 | .gptr sz es off=>(match zz0 P t sz es off with
  | some v=>.obl v h (ldC P t sz es off)
  | none=>.no)
 | a=>Xw0 P C h t a (ofO h (load P h t a))
def canS (P:Program) (t:TypeId) (r:So):So :=
 match r with
 | .val v h=>.val (yi0 P t v) h
 | .obl v h φ=>.obl (yi0 P t v) h φ
 | r=>r
def Za0 (C:Cf) (cn lit:Bool) (P:Program) (G:Nat→Option V) (tm:T V) (h:Heap) (o:Oper):So :=
 match o.op with
 | .load t a=>s1 G tm a (Bool.rec (Jo0 P C h t) (Jn0 P C h t) cn)
 | .build t _=>Bool.rec (yq0 lit P G tm h o) (bif C.cb t then canS P t (yq0 lit P G tm h o) else yq0 lit P G tm h o) cn
 | _=>yq0 lit P G tm h o
def qP0 (C:Cf) (cn lit:Bool) (P:Program) (G:Nat→Option V) (tm:T V) (h:Heap) (o:Oper):Rs:=Bool.rec (qs0 lit P G tm h o) (opC P C G tm o (qs0 lit P G tm h o)) cn
def Jm0 (C:Cf) (P:Program) (G:Nat→Option V) (tm:T V) (h:Heap) (o:Oper):So :=
 match o.op with
 | .load t a=>s1 G tm a (Jo0 P C h t)
 | _=>litD P G tm h o
theorem qx2 (P:Program) (C:Cf) (h:Heap) (t:TypeId) (a:V):So.ok (ql0 h (load P h t a)) (Jo0 P C h t a):=by
 cases a with
 | gptr sz es off =>
  unfold Jo0
  simp only
  cases he:zz0 P t sz es off with
  | none=>trivial
  | some v =>
   intro hl
   have hl:load P h t (.gptr sz es off)=zz0 P t sz es off:=hl
   rw [hl,he];rfl
 | _=>exact QK1 P C h t _ (zy0 h _)
theorem QM1 {P:Program} {lit:Bool} {G:Nat→Option V} {tm:T V} {h:Heap} {o:Oper} {t:TypeId} {a:Operand} (ho:o.op=.load t a):qs0 lit P G tm h o=o1 G tm h a (load P h t)∧qz0 P G tm h o=o1 G tm h a (load P h t):=by
 have hb:∀ t len ps,o.op≠.buildSlice t len ps:=fun _ _ _ e=>by rw [ho] at e;cases e
 have e0:qV0 P G tm h o=o1 G tm h a (load P h t):=by unfold qV0;rw [ho];rfl
 refine ⟨(zC0 hb).trans e0,?_⟩
 rw [← e0]
 unfold qz0
 split
 ·rename_i t len ps e;exact absurd e (hb t len ps)
 ·rfl
theorem Ya1 (P:Program) (C:Cf) (G:Nat→Option V) (tm:T V) (h:Heap) (t:TypeId) (a:Operand):So.ok (o1 G tm h a (load P h t)) (s1 G tm a (Jo0 P C h t)):=by
 rw [Gl0]
 unfold s1
 cases AM.ev G tm a with
 | none=>trivial
 | some v=>exact qx2 P C h t v
theorem zH2 {P:Program} {C:Cf} (cn lit:Bool) (G:Nat→Option V) (tm:T V) (h:Heap) (o:Oper):So.ok (qP0 C cn lit P G tm h o) (Za0 C cn lit P G tm h o):=by
 by_cases hb:∃ t a,o.op=.load t a
 ·obtain ⟨t,a,ho⟩:=hb
  have e1:Za0 C cn lit P G tm h o=s1 G tm a (Bool.rec (Jo0 P C h t) (Jn0 P C h t) cn):=by unfold Za0;rw [ho]
  have e2:opC P C G tm o (qs0 lit P G tm h o)=bif isGp (AM.ev G tm a) then (match qs0 lit P G tm h o with
   | .val v h=>.val (yi0 P t v) h
   | r=>r) else qs0 lit P G tm h o:=by unfold opC;rw [ho];rfl
  unfold qP0
  rw [e1,e2,(QM1 ho).1]
  cases cn with
  | false=>exact Ya1 P C G tm h t a
  | true =>
   rw [Gl0]
   unfold s1
   cases AM.ev G tm a with
   | none=>trivial
   | some v =>
    change So.ok (bif isGp (some v) then (match ql0 h (load P h t v) with
     | .val v h=>.val (yi0 P t v) h
     | r=>r) else ql0 h (load P h t v)) (Jn0 P C h t v)
    cases hg:isGp (some v) with
    | false =>
     have e:Jn0 P C h t v=Xw0 P C h t v (ofO h (load P h t v)):=by
      unfold Jn0
      split
      ·cases hg
      ·rfl
     rw [e];exact QK1 P C h t v (zy0 h _)
    | true =>
     obtain ⟨sz,es,off,rfl⟩:∃ sz es off,v=.gptr sz es off:=by
      cases v <;> first | exact ⟨_,_,_,rfl⟩ | cases hg
     simp only [cond_true]
     unfold Jn0
     simp only
     cases he:zz0 P t sz es off with
     | none=>trivial
     | some v =>
      intro hl
      change ZB0 P t sz es off=zz0 P t sz es off at hl
      rw [he] at hl
      unfold ZB0 at hl
      have e:load P Heap.empty t (.gptr sz es off)=load P h t (.gptr sz es off):=rfl
      rw [e] at hl
      cases hv:load P h t (.gptr sz es off) with
      | none=>rw [hv] at hl;cases hl
      | some x=>rw [hv] at hl;simp only [Option.some.injEq] at hl;rw [← hl];rfl
 ·have h0:=Zw1 (P:=P) lit G tm h o
  by_cases hb2:∃ t ps,o.op=.build t ps
  ·obtain ⟨t,ps,ho⟩:=hb2
   have e1:Za0 C cn lit P G tm h o=Bool.rec (yq0 lit P G tm h o) (bif C.cb t then canS P t (yq0 lit P G tm h o) else yq0 lit P G tm h o) cn:=by unfold Za0;rw [ho]
   have e2:opC P C G tm o (qs0 lit P G tm h o)=bif C.cb t then (match qs0 lit P G tm h o with
    | .val v h=>.val (yi0 P t v) h
    | r=>r) else qs0 lit P G tm h o:=by unfold opC;rw [ho];rfl
   unfold qP0
   rw [e1,e2]
   cases cn with
   | false=>exact h0
   | true =>
    cases C.cb t with
    | false=>exact h0
    | true =>
     simp only [cond_true]
     generalize yq0 lit P G tm h o=q at h0
     cases q with
     | val v h1=>rw [show qs0 lit P G tm h o=.val v h1 from h0];rfl
     | obl v h1 φ=>intro hφ;rw [show qs0 lit P G tm h o=.val v h1 from h0 hφ]
     | skip h1=>rw [show qs0 lit P G tm h o=.skip h1 from h0];rfl
     | no=>trivial
  ·have e1:Za0 C cn lit P G tm h o=yq0 lit P G tm h o:=by
    unfold Za0
    split
    ·rename_i t a e;exact absurd ⟨t,a,e⟩ hb
    ·rename_i t a e;exact absurd ⟨t,a,e⟩ hb2
    ·rfl
   have e2:opC P C G tm o (qs0 lit P G tm h o)=qs0 lit P G tm h o:=by
    unfold opC
    split
    ·rename_i t a e;exact absurd ⟨t,a,e⟩ hb
    ·rename_i t a e;exact absurd ⟨t,a,e⟩ hb2
    ·rfl
   unfold qP0
   rw [e1,e2]
   cases cn <;> exact h0
theorem QJ1 {P:Program} {C:Cf} (G:Nat→Option V) (tm:T V) (h:Heap) (o:Oper):So.ok (qz0 P G tm h o) (Jm0 C P G tm h o):=by
 unfold Jm0
 split
 ·rename_i t a ho
  rw [(QM1 (lit:=false) ho).2];exact Ya1 P C G tm h t a
 ·exact qu2 (P:=P) G tm h o
def eqB (x y:V):Option Bool :=
 match x with
 | .str a=>(match y with
  | .str b=>some (decide (a=b))
  | _=>none)
 | x=>eqS x y
theorem eqB_eq (x y:V):eqB x y=eqS x y:=by
 cases x with
 | str a =>
  cases y with
  | str b =>
   change some (decide (a=b))=some (zJ0 a b)
   rw [YD0,qj1]
  | _=>rfl
 | _=>rfl
def KG0 {β:Type} (k:V) (l:List (V×V)) (kk:Option (Option V)→β):β :=
 List.rec (kk (some none)) (fun p _ ih=>match eqB k p.1 with
  | some b=>Bool.rec ih (kk (some (some p.2))) b
  | none=>kk none) l
theorem jV1 {β:Type} (k:V) (l:List (V×V)) (kk:Option (Option V)→β):KG0 k l kk=kk (findKey k l):=by
 induction l with
 | nil=>rfl
 | cons p l IH =>
  change (match eqB k p.1 with
   | some b=>Bool.rec (KG0 k l kk) (kk (some (some p.2))) b
   | none=>kk none)=kk (findKey k (p::l))
  rw [jW1,eqB_eq]
  cases eqS k p.1 with
  | none=>rfl
  | some b=>cases b <;> first | exact IH | rfl
def Gd0 {β:Type} (P:Program) (t:TypeId) (ok:Bool) (h:Heap) (m k:V) (kk:Option V→β):β :=
 match Js0 P t with
 | none=>kk none
 | some (kt,e)=>bif zn0 P kt k then (match m with
  | .nilm=>kk (Zw0 P ok e (some none))
  | .map r=>(match h.get r with
   | .map es=>KG0 k es (fun x=>kk (Zw0 P ok e x))
   | _=>kk none)
  | .gmap ks vs=>KG0 k (ZV0 ks vs) (fun x=>kk (Zw0 P ok e x))
  | _=>kk none) else kk none
theorem QP1 {β:Type} (P:Program) (t:TypeId) (ok:Bool) (h:Heap) (m k:V) (kk:Option V→β):Gd0 P t ok h m k kk=kk (lookup P h t ok m k):=by
 unfold Gd0 lookup
 cases Js0 P t with
 | none=>rfl
 | some p =>
  obtain ⟨kt,e⟩:=p
  simp only
  cases zn0 P kt k with
  | false=>rfl
  | true =>
   simp only [cond_true]
   cases m with
   | map r =>
    simp only
    cases h.get r with
    | map es=>exact jV1 k es _
    | _=>rfl
   | gmap ks vs=>exact jV1 k (ZV0 ks vs) _
   | _=>rfl
inductive PR (α ε:Type) where
 | no
 | ok (a:α)
 | er (e:ε)
structure Ent where
 α:Type
 ε:Type
 x:PR α ε
 s:α→Bool
 t:α→Bool
 R:Bool→Bool→α→Res
 Q:ε→Res
def ent {α ε:Type} (x:PR α ε) (R:α→Res) (Q:ε→Res):Ent:=⟨α,ε,x,fun _=>true,fun _=>true,fun _ _=>R,Q⟩
def Ent.res (e:Ent):Res :=
 match e.x with
 | .no=>.none 0 none
 | .ok a=>e.R (e.s a) (e.t a) a
 | .er n=>e.Q n
def Zk0 (ih0:Task→Res) (Tb:Task→Option Ent):Prop:=∀ t e,Tb t=some e→e.x=.no∨e.res=ih0 t
def putDf (e:V) (j:Nat) (cs:List V):V :=
 match ZP0 e j cs with
 | some e'=>e'
 | none=>e
def yG0 (sz:Nat) (es:List V) (off:Nat) (v:V):List V:=List.setN (putDf (es.getD (off/sz) undef) (off%sz) v.cells) es (off/sz)
def stX (P:Program) (t:TypeId) (v:V) (pub sz:Nat) (es:List V) (off:Nat):Prop:=v.flat=true∧v.cells.length=size P t∧pub≤off/sz∧1≤size P t∧off/sz<es.length∧ZP0 (es.getD (off/sz) undef) (off%sz) v.cells≠none
def isShr:BinOp→Bool
 | .shr=>true
 | _=>false
theorem Qw2 {P:Program} {h:Heap} {t:TypeId} {r ver ver' ty sz pub off:Nat} {cap:Option Nat} {es:List V} {v:V} (hg:h.get r=.row ver' ty sz pub cap es) (hv:ver=ver') (hs:stX P t v pub sz es off):store P h t (.ptr r ver off) v=some (h.set r (.row ver ty sz pub cap (yG0 sz es off v))):=by
 subst hv
 obtain ⟨h1,h2,h3,h4,h5,h6⟩:=hs
 have hat:List.at es (Nat.div off sz)=some (es.getD (off/sz) undef):=by
  rw [List.at_eq]
  change es[off/sz]?=_
  rw [List.getElem?_eq_getElem h5,List.getD_eq_getElem?_getD,List.getElem?_eq_getElem h5]
  rfl
 unfold store
 simp only [hg]
 have e0:(Nat.beq ver ver&&v.flat&&Nat.beq (List.len v.cells) (size P t)&&Nat.ble pub (Nat.div off sz)&&Nat.ble 1 (size P t))=true:=by
  simp only [Bool.and_eq_true,Nat.beq_eq,Nat.ble_eq,List.len_eq]
  exact ⟨⟨⟨⟨trivial,h1⟩,h2⟩,h3⟩,h4⟩
 rw [e0]
 simp only [cond_true,hat]
 unfold yG0 putDf
 change (match ZP0 (es.getD (off/sz) undef) (off%sz) v.cells with
  | some e'=>some (h.set r (.row ver ty sz pub cap (List.setN e' es (off/sz))))
  | none=>none)=_
 cases hp:ZP0 (es.getD (off/sz) undef) (off%sz) v.cells with
 | none=>exact absurd hp h6
 | some e'=>rfl
section defs
variable (P:Program) (E:Env) (C:Cf) (Tb:Task→Option Ent) (ih0:Task→Res) {β:Type} (bot:β)
def Ent.run (e:Ent) (k:Res→β):β:=PR.rec (motive:=fun _=>β) bot (fun a=>Bool.rec (Bool.rec (k (e.R false false a)) (k (e.R false true a)) (e.t a)) (Bool.rec (k (e.R true false a)) (k (e.R true true a)) (e.t a)) (e.s a)) (fun n=>k (e.Q n)) e.x
def oK (t:Task) (k:Res→β):β :=
 match Tb t with
 | some e=>e.run bot k
 | none=>k (ih0 t)
variable (rec:Task→(Res→β)→β)
def zc1 (f:FuncId) (args:List V) (h:Heap) (k:Res→β):β :=
 needs bot (Jb0 C h (zl0 C h 60 (qx0 (qy0 8) args) [])) (match qc0 (rnV (qm0 (zl0 C h 60 (qx0 (qy0 8) args) [])) 8) args with
 | none=>rec (.call f args h) k
 | some as=>match qc0 (fun r=>rnH C h (qm0 (zl0 C h 60 (qx0 (qy0 8) args) [])) r) (zl0 C h 60 (qx0 (qy0 8) args) []) with
  | none=>rec (.call f args h) k
  | some os=>bif okR h.n (zl0 C h 60 (qx0 (qy0 8) args) []) then oK Tb ih0 bot (.call f as (hp os)) (fun r=>outK C bot h (zl0 C h 60 (qx0 (qy0 8) args) []) k r) else rec (.call f args h) k)
def zd0 (t:Task) (k:Res→β):β :=
 match t with
 | .call f args h=>bif C.inl f then rec (.call f args h) k else zc1 C Tb ih0 bot rec f (C.na f args) h k
 | .code c fr h=>(match c with
  | .loop b=>bif C.unr fr.fn b h.n then rec (.code (.loop b) (wkF (C.live fr.fn b) fr) h) k else oK Tb ih0 bot (.code (.loop b) (wkF (C.live fr.fn b) fr) (Zz0 h)) k
  | c=>rec (.code c fr h) k)
 | t=>rec t k
def GV0 (f:V→(V→β)→β) (l:List V):(List V→β)→β :=
 List.rec (motive:=fun _=>(List V→β)→β) (fun kk=>kk []) (fun v _ ih kk=>f v (fun v'=>ih (fun l'=>kk (v'::l')))) l
def yv1 (d:Nat):V→(V→β)→β :=
 Nat.rec (motive:=fun _=>V→(V→β)→β) (fun v kk=>kk v) (fun _ ih v kk=>match v with
  | .bool b=>Bool.rec (kk (.bool false)) (kk (.bool true)) b
  | .agg vs=>GV0 ih vs (fun l=>kk (.agg l))
  | .tup vs=>GV0 ih vs (fun l=>kk (.tup l))
  | v=>kk v) d
def goK (o:Oper) (fr:Fr) (next:Fr→Heap→β) (v:V) (h:Heap) (k:Res→β):β :=
 yv1 6 v (fun v=>match fr.put o.dst v with
 | none=>k (.none fr.fn (some o))
 | some fr'=>next fr' h)
def Ki0 (o:Oper) (fr:Fr) (next:Fr→Heap→β) (k:Res→β) (r:Res):β :=
 match r with
 | .ret v h=>goK o fr next v h k
 | .panic v h=>k (.code (.panic v) fr h)
 | .none a b=>k (.none a b)
 | _=>k (.none fr.fn (some o))
def qt1 (f:FuncId) (args:List V) (h:Heap) (k:Res→β):β :=
 Gw0 C bot depth args h (fun x=>match x with
 | .none=>k (.none f .none)
 | some (gs,h1) =>
  match E.prim f gs with
  | some v=>k (Yi0 E f (Bool.rec h1 h (E.borrow f)) v)
  | .none=>zd0 C Tb ih0 bot rec (.call f gs Heap.empty) (fun r=>k (Yh0 (Yi0 E f) (E.borrow f) (Bool.rec h1 h (E.borrow f)) f r)))
def qv1 (f:FuncId) (args:List V) (h:Heap) (k:Res→β):β :=
 bif qH0 (ground 3) args then
  (match E.prim f args with
  | some v=>k (XZ0 h v)
  | .none=>zd0 C Tb ih0 bot rec (.call f args Heap.empty) (fun r=>k (Yh0 XZ0 false h f r)))
 else k (.none f .none)
def JT1 (f:FuncId) (args:List V) (h:Heap) (k:Res→β):β :=
 zd0 C Tb ih0 bot rec (.call f args h) (fun r=>k (Bool.rec r (ZN0 f r) (E.pubRet f)))
def Ku0 (lit:Bool) (f:FuncId) (args:List V) (h:Heap) (k:Res→β):β :=
 Bool.rec (Bool.rec (qt1 E C Tb ih0 bot rec f args h k) (qv1 E C Tb ih0 bot rec f args h k) lit) (JT1 E C Tb ih0 bot rec f args h k) (E.shared f)
def rsK (o:Oper) (fr:Fr) (next:Fr→Heap→β) (k:Res→β) (r:Rs):β :=
 match r with
 | .val v h=>goK o fr next v h k
 | .skip h=>goK o fr next undef h k
 | .call f args h=>Ku0 E C Tb ih0 bot rec false f args h (fun r=>Ki0 o fr next k r)
 | .yield l args h=>zd0 C Tb ih0 bot rec (.yield l args h) (fun r=>Ki0 o fr next k r)
 | .panic v h=>k (.code (.panic v) fr h)
 | .defer f args h=>(match fr.round with
  | some _=>k (.none fr.fn (some o))
  | .none=>match fr.marks with
   | []=>goK o { fr with defers:=(f,args)::fr.defers } next undef h k
   | _=>k (.none fr.fn (some o)))
 | .recover _=>k (.none fr.fn (some o))
 | .stuck=>k (.none fr.fn (some o))
def opK' (cn:Bool) (o:Oper) (fr:Fr) (next:Fr→Heap→β) (h:Heap) (k:Res→β):β :=
 match Za0 C cn (E.lit fr.fn) P E.glob fr.tm h o with
 | .val v h1=>goK o fr next v h1 k
 | .obl v h1 φ=>need bot φ (goK o fr next v h1 k)
 | .skip h1=>goK o fr next undef h1 k
 | .no=>rsK E C Tb ih0 bot rec o fr next k (qP0 C cn (E.lit fr.fn) P E.glob fr.tm h o)
def yw1 (o:Oper) (fr:Fr) (next:Fr→Heap→β) (h:Heap) (k:Res→β) (d:β):β :=
 match o.op with
 | .store t a x=>(match ev E.glob fr.tm a with
  | some (.ptr r ver off)=>bif symR C h r then (match ev E.glob fr.tm x with
   | some v=>(match h.get r with
    | .row ver' ty sz pub cap es=>need bot (ver=ver') (need bot (stX P t v pub sz es off) (goK o fr next undef (h.set r (.row ver ty sz pub cap (yG0 sz es off v))) k))
    | _=>d)
   | none=>d) else d
  | _=>d)
 | _=>d
def yt1 (o:Oper) (fr:Fr) (next:Fr→Heap→β) (h:Heap) (k:Res→β) (d:β):β :=
 match o.op with
 | .binOp op t x y _=>bif C.shf fr.fn&&isShr op then (match ev E.glob fr.tm x with
  | some (.int kk a)=>(match ev E.glob fr.tm y with
   | some (.int kb b)=>need bot (qL0 .shr kk a b=some (.int kk (a/2^b.toNat))) (goK o fr next (.int kk (a/2^b.toNat)) h k)
   | _=>d)
  | _=>d) else d
 | _=>d
def recvA:V→Bool
 | .nils=>true
 | .sl _ _ _ _ _=>true
 | .gsl _ _ _=>true
 | _=>false
def appK (o:Oper) (fr:Fr) (next:Fr→Heap→β) (h:Heap) (k:Res→β) (d:β):β :=
 match o.op with
 | .call c=>(match c.callee with
  | .builtin b=>(match b with
   | .append=>(match qc0 (ev E.glob fr.tm) c.args.toList with
    | some [x,y]=>(match c.argTypes.toList with
     | [t,u]=>(match y with
      | .osl sz es=>(match qu0 P t with
       | some e=>bif C.apf fr.fn&&yn0 P u&&recvA x&&Nat.beq sz (size P e)&&!(Nat.beq (size P e) 0) then Bool.rec d (goK o fr next x h k) (qw0 es) else d
       | none=>d)
      | _=>d)
     | _=>d)
    | _=>d)
   | _=>d)
  | _=>d)
 | _=>d
def orN (a b:Int):Int:=((a.toNat ||| b.toNat:Nat):Int)
def isOr:BinOp→Bool
 | .or=>true
 | _=>false
def orK (o:Oper) (fr:Fr) (next:Fr→Heap→β) (h:Heap) (k:Res→β) (d:β):β :=
 match o.op with
 | .binOp op t x y _=>bif C.nxt fr.fn&&isOr op then (match ev E.glob fr.tm x with
  | some (.int kk a)=>(match ev E.glob fr.tm y with
   | some (.int kb b)=>need bot (kk=kb∧qL0 .or kk a b=some (.int kk (orN a b))) (goK o fr next (.int kk (orN a b)) h k)
   | _=>d)
  | _=>d) else d
 | _=>d
def zP1 (o:Oper) (fr:Fr) (next:Fr→Heap→β) (h:Heap) (k:Res→β) (d:β):β :=
 match o.op with
 | .next it isString=>bif C.nxt fr.fn&&isString then (match ev E.glob fr.tm it with
  | some (.iter r)=>(match h.get r with
   | .siter s pos=>bif decide (pos<s.length) then goK o fr next (.tup [.bool true,.int .i64 (pos:Int),.int .i32 (GJ0 s pos:Int)]) (h.set r (.siter s (pos+Jl0 s pos))) k else goK o fr next (.tup [.bool false]) h k
   | _=>d)
  | _=>d) else d
 | _=>d
def opK (cn:Bool) (o:Oper) (fr:Fr) (next:Fr→Heap→β) (h:Heap) (k:Res→β):β :=
 match o.op with
 | .lookup t m key ok=>(match ev E.glob fr.tm m with
  | some mv=>(match ev E.glob fr.tm key with
   | some kv=>Gd0 P t ok h mv kv (fun x=>match x with
    | some v=>goK o fr next v h k
    | none=>k (.none fr.fn (some o)))
   | none=>k (.none fr.fn (some o)))
  | none=>k (.none fr.fn (some o)))
 | _=>yt1 E C bot o fr next h k (yw1 P E C bot o fr next h k (appK P E C o fr next h k (orK E C bot o fr next h k (zP1 E C o fr next h k (opK' P E C Tb ih0 bot rec cn o fr next h k)))))
def preK (o:Oper) (fr:Fr) (h:Heap) (kk:Fr→Heap→β):β :=
 match o.op with
 | .store t _ v=>(match v with
  | .tmp i=>(match C.ps fr.fn t with
   | some b=>bif Nat.blt i fr.n then (match js0 (fr.at' i) with
    | some v=>Bool.rec (kk (fr.st i (C.nz fr.fn t v)) h) (pubK C bot 38 h v (fun r=>match r with
     | some p=>kk (fr.st i (C.nz fr.fn t p.1)) p.2
     | none=>kk fr h)) b
    | none=>kk fr h) else kk fr h
   | none=>kk fr h)
  | _=>kk fr h)
 | _=>kk fr h
def ZL0 (cn:Bool) (all l:List Oper):Fr→Heap→(Res→β)→β :=
 List.rec (motive:=fun _=>Fr→Heap→(Res→β)→β) (fun fr h k=>k (.code .normal fr h))
  (fun o _ ih fr h k=>Bool.rec (match wanted all fr o with
   | none=>k (.none fr.fn (some o))
   | some b=>Bool.rec (goK o fr (fun fr h=>ih fr h k) undef h k) (opK P E C Tb ih0 bot rec false o fr (fun fr h=>ih fr h k) h k) b)
   (preK C bot o fr h (fun fr h=>match wanted all fr o with
   | none=>k (.none fr.fn (some o))
   | some b=>Bool.rec (goK o fr (fun fr h=>ih fr h k) undef h k) (opK P E C Tb ih0 bot rec true o fr (fun fr h=>ih fr h k) h k) b)) cn) l
def qG1 (tm:T V) (h:Heap) (o:Oper) (k:Outc→β):β :=
 match Jm0 C P E.glob tm h o with
 | .val v h1=>k (.val v h1)
 | .obl v h1 φ=>need bot φ (k (.val v h1))
 | .skip h1=>k (.val undef h1)
 | .no=>match qz0 P E.glob tm h o with
  | .val v h'=>k (.val v h')
  | .skip h'=>k (.val undef h')
  | .call f args h'=>Ku0 E C Tb ih0 bot rec true f args h' (fun r=>k (orOf r))
  | .yield l args h'=>zd0 C Tb ih0 bot rec (.yield l args h') (fun r=>k (orOf r))
  | .panic v h'=>k (.panic v h')
  | _=>k .stuck
def qF1 (tm:T V) (h:Heap) (o:Oper) (k:Outc→β):β :=
 match o.op with
 | .lookup t m key ok=>(match ev E.glob tm m with
  | some mv=>(match ev E.glob tm key with
   | some kv=>Gd0 P t ok h mv kv (fun x=>match x with
    | some v=>k (.val v h)
    | none=>k .stuck)
   | none=>k .stuck)
  | none=>k .stuck)
 | _=>qG1 P E C Tb ih0 bot rec tm h o k
def YT0 (o:Oper) (v:V) (fr:Fr) (next:Fr→β) (kk:DR→β):β :=
 yv1 6 v (fun v=>match fr.put o.dst v with
 | none=>kk (.stuck (some o))
 | some fr'=>next fr')
def Kz0 (d:DOp) (next:Fr→Heap→Nat→List Hp→List Rc→Option Pn→List Nat→β) (fr:Fr) (h:Heap) (pb:Nat) (hs:List Hp) (rs:List Rc) (pan:Option Pn) (ix:List Nat) (kk:DR→List Nat→β) (r:Outc):β :=
 match r with
 | .val v h'=>bif d.w then (bif zw0 pan then YT0 d.o v fr (fun fr'=>next fr' h' d.b (⟨pb,h,some d.i⟩::hs) rs pan ix) (fun r=>kk r ix) else kk (.stuck (some d.o)) ix)
  else YT0 d.o v fr (fun fr'=>next fr' h pb hs (bif yb0 E d.o.op then rs else ⟨d.o,d.i,d.b,fr.tm,v⟩::rs) pan (bif yb0 E d.o.op then ix else List.len hs::ix)) (fun r=>kk r ix)
 | .panic v h'=>bif d.w&&zw0 pan then next fr h pb (⟨pb,h,some d.i⟩::hs) rs (some ⟨d.i,v,h'⟩) ix else kk (.stuck (some d.o)) ix
 | .stuck=>kk (.stuck (some d.o)) ix
def qD1 (all:List Oper) (d:DOp) (next:Fr→Heap→Nat→List Hp→List Rc→Option Pn→List Nat→β) (fr:Fr) (h:Heap) (pb:Nat) (hs:List Hp) (rs:List Rc) (pan:Option Pn) (ix:List Nat) (kk:DR→List Nat→β):β :=
 bif XH0 pan d.b then next fr h pb hs rs pan ix
 else match wanted all fr d.o with
  | .none=>kk (.stuck (some d.o)) ix
  | some t=>Bool.rec (bif d.w then (bif zw0 pan then YT0 d.o undef fr (fun fr'=>next fr' h d.b (⟨pb,h,some d.i⟩::hs) rs pan ix) (fun r=>kk r ix) else kk (.stuck (some d.o)) ix)
   else YT0 d.o undef fr (fun fr'=>next fr' h pb hs rs pan ix) (fun r=>kk r ix))
   (qF1 P E C Tb ih0 bot rec fr.tm h d.o (fun r=>Kz0 E d next fr h pb hs rs pan ix kk r)) t
def Xi0 (all:List Oper) (l:List DOp):Fr→Heap→Nat→List Hp→List Rc→Option Pn→List Nat→(DR→List Nat→β)→β :=
 List.rec (motive:=fun _=>Fr→Heap→Nat→List Hp→List Rc→Option Pn→List Nat→(DR→List Nat→β)→β) (fun fr h pb hs rs pan ix kk=>kk (.done fr h (bif zw0 pan then ⟨pb,h,none⟩::hs else hs) rs pan) ix)
  (fun d _ ih fr h pb hs rs pan ix kk=>qD1 P E C Tb ih0 bot rec all d (fun fr h pb hs rs pan ix=>ih fr h pb hs rs pan ix kk) fr h pb hs rs pan ix kk) l
def jv1 (r:Rc) (e:Hp) (x:β):β :=
 match Jm0 C P E.glob r.tm e.h r.o with
  | .val v _=>need bot (r.v=v) x
  | .obl v _ φ=>need bot φ (need bot (r.v=v) x)
  | .skip _=>need bot (r.v=undef) x
  | .no=>bot
def ju1 (r:Rc) (e:Hp) (x:β):β :=
 match r.o.op with
 | .lookup t m key ok=>(match ev E.glob r.tm m with
  | some mv=>(match ev E.glob r.tm key with
   | some kv=>need bot (lookup P e.h t ok mv kv=some r.v) x
   | none=>bot)
  | none=>bot)
 | _=>jv1 P E C bot r e x
def YS0 (r:Rc) (e:Hp) (x:β):β :=
 bif tb e.pb r.i then x
 else bif QX0 r.b e.nx then x
 else ju1 P E C bot r e x
def yR0 (r:Rc) (j:Option Nat) (hps:List Hp) (x:β):β:=List.rec x (fun e l ih=>bif yX0 j (some (List.len l)) then ih else YS0 P E C bot r e ih) hps
def YR0 (hps:List Hp) (rcs:List Rc) (x:β):List Nat→β:=List.rec (motive:=fun _=>List Nat→β) (fun _=>x) (fun r _ ih ix=>match ix with
 | []=>yR0 P E C bot r none hps (ih [])
 | j::ix=>yR0 P E C bot r (some j) hps (ih ix)) rcs
def KC0 (l:List DOp) (fn:FuncId) (k:Res→β) (r:DR) (ix:List Nat):β :=
 match r with
 | .stuck o=>k (.none fn o)
 | .done fr h hps rcs pan=>bif QW0 l then (match pan with
  | none=>k (.code .normal fr h)
  | some p=>k (.code (.panic p.v) (zM0 l fr) p.h))
  else YR0 P E C bot hps rcs (match pan with
   | none=>k (.code .normal fr h)
   | some p=>k (.code (.panic p.v) (zM0 l fr) p.h)) ix
def qI1 (all:List Oper) (fr:Fr) (h:Heap) (k:Res→β):β :=
 match (bif P.follows .mixedOrders then Ye0 E all else none) with
 | none=>k (.none fr.fn none)
 | some l=>Xi0 P E C Tb ih0 bot rec all l fr h 0 [] [] none [] (fun r ix=>KC0 P E C bot l fr.fn k r ix)
def seqK (b:Code) (k:Res→β) (r:Res):β :=
 match r with
 | .code e fr h=>(match e with
  | .normal=>zd0 C Tb ih0 bot rec (.code b fr h) k
  | e=>k (.code e fr h))
 | r=>k r
def seqL (b:Code) (k:Res→β) (r:Res):β :=
 match r with
 | .code e fr h=>(match e with
  | .normal=>zd0 C Tb ih0 bot rec (.code b fr h) (fun r=>Jq0 C bot h.n (C.live fr.fn b) k r)
  | e=>k (.code e fr h))
 | r=>k r
def KD0 (lid:Nat) (fr:Fr) (k:Res→β) (r:Res):β :=
 match r with
 | .ret _ h=>(match h.get lid with
  | .loop st pending fn n tm ps a b d =>
   (match st with
   | .busy=>k (.none fr.fn .none)
   | _=>match pending with
    | .none=>k (.code .normal fr (h.set lid (.loop .exhausted pending fn n tm ps a b d)))
    | some c=>zd0 C Tb ih0 bot rec (.code c fr (h.set lid (.loop .exhausted pending fn n tm ps a b d))) k)
  | _=>k (.none fr.fn .none))
 | .panic v h=>k (.code (.panic v) fr h)
 | .none a b=>k (.none a b)
 | _=>k (.none fr.fn .none)
def ye1 (f:Operand) (params:Array Tmp) (assign body:Code) (fr:Fr) (h:Heap) (k:Res→β):β :=
 match ev E.glob fr.tm f with
 | .none=>k (.none fr.fn .none)
 | some fv=>match YU0 fr h with
  | .none=>k (.none fr.fn .none)
  | some (d,marks,h1) =>
   match Zp0 P (h1.new (.loop .ready .none fr.fn fr.n fr.tm params.toList assign body d)) fv [.func (.yield h1.n) [] []] with
   | .call g args h2=>bif E.shared g then zd0 C Tb ih0 bot rec (.call g args h2) (fun r=>KD0 C Tb ih0 bot rec h1.n { fr with marks:=marks } k r) else k (.none fr.fn .none)
   | _=>k (.none fr.fn .none)
def codeK (c:Code) (fr:Fr) (h:Heap) (k:Res→β):β :=
 match c with
 | .skip=>k (.code .normal fr h)
 | .region _ ops draw=>bif draw then qI1 P E C Tb ih0 bot rec ops.toList fr h k else ZL0 P E C Tb ih0 bot rec true ops.toList ops.toList fr h k
 | .seq a b=>zd0 C Tb ih0 bot rec (.code a fr h) (fun r=>seqK C Tb ih0 bot rec b k r)
 | .cond c a b=>(match ev E.glob fr.tm c with
  | some (.bool t)=>Bool.rec (zd0 C Tb ih0 bot rec (.code b fr h) k) (zd0 C Tb ih0 bot rec (.code a fr h) k) t
  | _=>k (.none fr.fn .none))
 | .block id b=>zd0 C Tb ih0 bot rec (.code b fr h) (fun r=>k (XP0 id r))
 | .loop b=>zd0 C Tb ih0 bot rec (.code b fr h) (fun r=>Jq0 C bot h.n (C.live fr.fn b) (fun r=>seqL C Tb ih0 bot rec (.loop b) k r) r)
 | .rangeFunc f params assign body=>ye1 P E C Tb ih0 bot rec f params assign body fr h k
 | .exit id=>k (.code (.exit id) fr h)
 | .scope b=>zd0 C Tb ih0 bot rec (.code b fr h) k
 | .label _=>k (.code .normal fr h)
 | .goto _=>k (.none fr.fn .none)
 | .ret=>k (.code .ret fr h)
 | .refuse _=>k (.none fr.fn .none)
def ZS1 (f:FuncId) (fn:Func) (fr:Fr) (l:List (FuncId×List V)):Option V→Heap→(Res→β)→β :=
 List.rec (motive:=fun _=>Option V→Heap→(Res→β)→β) (fun p h k=>k (KE0 P f fn fr p h))
  (fun d _ ih p h k=>zd0 C Tb ih0 bot rec (.dcall d.1 d.2 p h) (fun r=>match r with
   | .dret _ h'=>ih .none h' k
   | .none a b=>k (.none a b)
   | _=>k (.none f .none))) l
def Xk0 (f:FuncId) (fn:Func) (fr:Fr) (p:Option V) (h:Heap) (k:Res→β):β :=
 match Jk0 fr.marks h with
 | .none=>k (.none f .none)
 | some h'=>ZS1 P C Tb ih0 bot rec f fn fr fr.defers p h' k
def qS1 (f:FuncId) (fn:Func) (k:Res→β) (r:Res):β :=
 match r with
 | .code e fr h=>(match e with
  | .normal=>Xk0 P C Tb ih0 bot rec f fn fr .none h k
  | .ret=>Xk0 P C Tb ih0 bot rec f fn fr .none h k
  | .panic v=>Xk0 P C Tb ih0 bot rec f fn fr (some v) h k
  | _=>k (.none f .none))
 | r=>k r
def callK (f:FuncId) (args:List V) (h:Heap) (k:Res→β):β :=
 match P.funcs[f]? with
 | .none=>k (.none f .none)
 | some fn=>match fn.body with
  | .none=>(match Xn0 P fn args h with
   | some (v,h')=>k (.ret v h')
   | .none=>k (.none f .none))
  | some body=>bif Nat.ble (List.len args) fn.ntmps then zd0 C Tb ih0 bot rec (.code body ⟨f,fn.ntmps,yu0 args 0 (yj0 (ym0 fn.ntmps)),[],[],.none,.none,false⟩ h) (fun r=>qS1 P C Tb ih0 bot rec f fn k r) else k (.none f .none)
def Ko0 (l:Nat) (body:Code) (k:Res→β) (r:Res):β :=
 match r with
 | .code e fr h=>(match e with
  | .normal=>(match h.get l with
   | .loop st pend fn n tm ps a b d=>(match st with
    | .ready=>zd0 C Tb ih0 bot rec (.code body fr (h.set l (.loop .busy pend fn n tm ps a b d))) k
    | _=>k (.none l .none))
   | _=>k (.none l .none))
  | _=>k (.none l .none))
 | r=>k r
def yF1 (l:Nat) (args:List V) (h:Heap) (k:Res→β):β :=
 match h.get l with
 | .loop _ _ fn n tm ps assign body _=>(match XW0 ps n args tm with
  | .none=>k (.none l .none)
  | some tm'=>zd0 C Tb ih0 bot rec (.code assign ⟨fn,n,tm',[],[],some l,.none,false⟩ h) (fun r=>Ko0 C Tb ih0 bot rec l body (fun r2=>k (endRound l r2)) r))
 | _=>k (.none l .none)
def qE1 (f:FuncId) (args:List V) (p:Option V) (h:Heap) (k:Res→β):β :=
 match P.funcs[f]? with
 | .none=>k (.none f .none)
 | some fn=>match fn.body with
  | some (.seq (.region _ ops false) rest)=>(match ops.toList with
   | []=>k (.none f .none)
   | o::l=>bif Ym0 o&&qw0 fn.results.toList&&Nat.ble (List.len args) fn.ntmps then
    (match Fr.put ⟨f,fn.ntmps,yu0 args 0 (yj0 (ym0 fn.ntmps)),[],[],.none,.none,false⟩ o.dst (Gr0 p) with
     | some fr1=>ZL0 P E C Tb ih0 bot rec false ops.toList l fr1 h (fun r=>seqK C Tb ih0 bot rec rest (fun r2=>k (Xl0 f r2)) r)
     | .none=>k (.none f .none))
    else k (.none f .none))
  | _=>k (.none f .none)
def stepK (t:Task) (k:Res→β):β :=
 match t with
 | .code c fr h=>codeK P E C Tb ih0 bot rec c fr h k
 | .call f args h=>callK P C Tb ih0 bot rec f args h k
 | .yield l args h=>yF1 C Tb ih0 bot rec l args h k
 | .dcall f args p h=>qE1 P E C Tb ih0 bot rec f args p h k
end defs
def evT (P:Program) (E:Env) (C:Cf) (Tb:Task→Option Ent) (ih0:Task→Res) {β:Type} (bot:β) (m:Nat):Task→(Res→β)→β :=
 Nat.rec (motive:=fun _=>Task→(Res→β)→β) (fun _ k=>k (.none 0 none)) (fun _ rec=>stepK P E C Tb ih0 bot rec) m
section split
variable {β:Type}
theorem Yk1 {f:V→(V→β)→β} (hf:∀ v kk,f v kk=kk v) (l:List V):∀ kk,GV0 f l kk=kk l:=by
 induction l with
 | nil=>intro kk;rfl
 | cons v l IH =>
  intro kk
  change f v (fun v'=>GV0 f l (fun l'=>kk (v'::l')))=kk (v::l)
  rw [hf,IH]
theorem Yl1 (d:Nat):∀ (v:V) (kk:V→β),yv1 d v kk=kk v:=by
 induction d with
 | zero=>intro v kk;rfl
 | succ d IH =>
  intro v kk
  cases v with
  | bool b=>cases b <;> rfl
  | agg vs=>exact Yk1 IH vs _
  | tup vs=>exact Yk1 IH vs _
  | _=>rfl
end split
section ok
variable {P:Program} {E:Env} {C:Cf} {Tb:Task→Option Ent} {ih0:Task→Res} {β:Type} {bot:β} {rec:Task→(Res→β)→β} {ih:Task→Res}
theorem oK_ok (hT:Zk0 ih0 Tb) (t:Task) (k:Res→β):Nr bot k (oK Tb ih0 bot t k) (ih0 t):=by
 unfold oK
 split
 ·rename_i e he
  have hx:=hT t e he
  obtain ⟨α,ε,x,s,t',R,Q⟩:=e
  unfold Ent.run
  unfold Ent.res at hx
  cases x with
  | no=>exact .inl rfl
  | ok a =>
   rcases hx with h | h
   ·cases h
   ·refine .inr ?_
    simp only at h
    rw [← h]
    simp only
    cases s a <;> cases t' a <;> rfl
  | er n=>rcases hx with h | h;cases h;exact .inr (by simp only at h;rw [← h])
 ·exact .self
variable (hT:Zk0 ih0 Tb) (hr:∀ t k,Nr bot k (rec t k) (ih t))
 include hT hr
theorem Gq1 (f:FuncId) (args:List V) (h:Heap) (k:Res→β):Nr bot k (zc1 C Tb ih0 bot rec f args h k) (Xp0 ih0 ih f args h):=by
 unfold zc1
 refine .needs fun q=>?_
 have hh:=za1 _ q
 have e:=ZM1 _ _ _ hh
 rw [e] at hh ⊢
 rw [Zd1 (f:=fun r=>rnH C h (qm0 (zq0 h 60 (qx0 (qy0 8) args) [])) r) (g:=fun r=>rnO (qm0 (zq0 h 60 (qx0 (qy0 8) args) [])) (h.get r)) fun r hr=>ZQ1 (hh r hr)]
 unfold Xp0
 generalize zq0 h 60 (qx0 (qy0 8) args) []=ρ
 generalize qc0 (rnV (qm0 ρ) 8) args=o1
 generalize qc0 (fun r=>rnO (qm0 ρ) (h.get r)) ρ=o2
 generalize okR h.n ρ=o3
 cases o1 with
 | none=>exact hr _ _
 | some as =>
  cases o2 with
  | none=>exact hr _ _
  | some os =>
   cases o3 with
   | false=>exact hr _ _
   | true=>exact (oK_ok hT _ _).then (zL2 h ρ k _)
theorem zB0 (t:Task) (k:Res→β):Nr bot k (zd0 C Tb ih0 bot rec t k) (qn0 C ih0 ih t):=by
 cases t with
 | call f args h =>
  unfold zd0 qn0
  simp only
  cases C.inl f with
  | true=>exact hr _ _
  | false=>exact Gq1 hT hr f (C.na f args) h k
 | code c fr h =>
  have key:∀ b,Nr bot k (bif C.unr fr.fn b h.n then rec (.code (.loop b) (wkF (C.live fr.fn b) fr) h) k else oK Tb ih0 bot (.code (.loop b) (wkF (C.live fr.fn b) fr) (Zz0 h)) k) (bif C.unr fr.fn b h.n then ih (.code (.loop b) (wkF (C.live fr.fn b) fr) h) else ih0 (.code (.loop b) (wkF (C.live fr.fn b) fr) (Zz0 h))):=fun b=>by
   cases C.unr fr.fn b h.n with
   | true=>exact hr _ _
   | false=>exact oK_ok hT _ _
  cases c <;> first | exact hr _ _ | exact key _
 | _=>exact hr _ _
 omit hT hr in theorem goK_ok {o:Oper} {fr:Fr} {next:Fr→Heap→β} {nextR:Fr→Heap→Res} {v:V} {h:Heap} {k:Res→β} (hn:∀ fr h,Nr bot k (next fr h) (nextR fr h)):Nr bot k (goK o fr next v h k) (yA0 o fr nextR v h):=by
  unfold goK yA0
  rw [Yl1]
  cases fr.put o.dst v with
  | none=>exact .self
  | some fr'=>exact hn fr' h
 omit hT hr in theorem afterK_ok {o:Oper} {fr:Fr} {next:Fr→Heap→β} {nextR:Fr→Heap→Res} {k:Res→β} (hn:∀ fr h,Nr bot k (next fr h) (nextR fr h)) (r:Res):Nr bot k (Ki0 o fr next k r) (JV0 o fr nextR (fun v h=>.code (.panic v) fr h) r):=by
  cases r with
  | ret v h=>exact goK_ok hn
  | _=>exact .self
theorem JR1 (f:FuncId) (args:List V) (h:Heap) (k:Res→β):Nr bot k (qt1 E C Tb ih0 bot rec f args h k) (Xd0 E (qn0 C ih0 ih) f args h):=by
 unfold qt1 Xd0
 refine (ZI1 (C:=C) (bot:=bot) (d:=depth) (by decide) args h _).then ?_
 generalize qE0 (pub [] depth) args h=o1
 cases o1 with
 | none=>exact .self
 | some p =>
  obtain ⟨gs,h1⟩:=p
  simp only
  generalize E.prim f gs=o2
  cases o2 with
  | some v=>exact .self
  | none=>exact (zB0 hT hr _ _).then .self
theorem JU1 (f:FuncId) (args:List V) (h:Heap) (k:Res→β):Nr bot k (qv1 E C Tb ih0 bot rec f args h k) (yx0 E (qn0 C ih0 ih) f args h):=by
 unfold qv1 yx0
 cases qH0 (ground 3) args with
 | false=>exact .self
 | true =>
  simp only [cond_true]
  generalize E.prim f args=o2
  cases o2 with
  | some v=>exact .self
  | none=>exact (zB0 hT hr _ _).then .self
theorem jl1 (lit:Bool) (f:FuncId) (args:List V) (h:Heap) (k:Res→β):Nr bot k (Ku0 E C Tb ih0 bot rec lit f args h k) (yh0 E (qn0 C ih0 ih) lit f args h):=by
 unfold Ku0 yh0
 cases E.shared f with
 | true=>exact (zB0 hT hr _ _).then .self
 | false =>
  cases lit with
  | true=>exact JU1 hT hr f args h k
  | false=>exact JR1 hT hr f args h k
theorem rsK_ok {o:Oper} {fr:Fr} {next:Fr→Heap→β} {nextR:Fr→Heap→Res} {k:Res→β} (hn:∀ fr h,Nr bot k (next fr h) (nextR fr h)) (r:Rs):Nr bot k (rsK E C Tb ih0 bot rec o fr next k r) (zD0 E (qn0 C ih0 ih) false o fr nextR (fun v h=>.code (.panic v) fr h) r):=by
 cases r with
 | val v h=>exact goK_ok hn
 | skip h=>exact goK_ok hn
 | call f args h=>exact (jl1 hT hr false f args h _).then (afterK_ok hn _)
 | yield l args h=>exact (zB0 (C:=C) hT hr (.yield l args h) (fun r=>Ki0 o fr next k r)).then (afterK_ok hn _)
 | panic v h=>exact .self
 | defer f args h =>
  change Nr bot k (match fr.round with
   | some _=>k (.none fr.fn (some o))
   | .none=>match fr.marks with
    | []=>goK o { fr with defers:=(f,args)::fr.defers } next undef h k
    | _=>k (.none fr.fn (some o))) (Yd0 o fr nextR f args h)
  unfold Yd0
  generalize fr.round=o1
  cases o1 with
  | some _=>exact .self
  | none =>
   simp only
   cases hm:fr.marks with
   | nil=>exact goK_ok hn
   | cons a b=>exact .self
 | recover h=>exact .self
 | stuck=>exact .self
theorem zD2 {cn:Bool} {o:Oper} {fr:Fr} {next:Fr→Heap→β} {nextR:Fr→Heap→Res} {h:Heap} {k:Res→β} (hn:∀ fr h,Nr bot k (next fr h) (nextR fr h)):Nr bot k (opK' P E C Tb ih0 bot rec cn o fr next h k) (zD0 E (qn0 C ih0 ih) false o fr nextR (fun v h=>.code (.panic v) fr h) (qP0 C cn (E.lit fr.fn) P E.glob fr.tm h o)):=by
 unfold opK'
 have hok:=zH2 (P:=P) (C:=C) cn (E.lit fr.fn) E.glob fr.tm h o
 generalize Za0 C cn (E.lit fr.fn) P E.glob fr.tm h o=r at hok
 cases r with
 | val v h1 =>
  rw [show qP0 C cn (E.lit fr.fn) P E.glob fr.tm h o=.val v h1 from hok]
  exact goK_ok hn
 | obl v h1 φ =>
  refine .need fun hφ=>?_
  rw [show qP0 C cn (E.lit fr.fn) P E.glob fr.tm h o=.val v h1 from hok hφ]
  exact goK_ok hn
 | skip h1 =>
  rw [show qP0 C cn (E.lit fr.fn) P E.glob fr.tm h o=.skip h1 from hok]
  exact goK_ok hn
 | no=>exact rsK_ok hT hr hn _
 omit hT hr in theorem lookup_op {o:Oper} {lit:Bool} {tm:T V} {h:Heap} {t:TypeId} {m key:Operand} {ok cn:Bool} (ho:o.op=.lookup t m key ok):qP0 C cn lit P E.glob tm h o=o2 E.glob tm h m key (lookup P h t ok):=by
  have e:qs0 lit P E.glob tm h o=o2 E.glob tm h m key (lookup P h t ok):=by
   rw [zC0 (fun _ _ _ e=>by rw [ho] at e;cases e)]
   unfold qV0;rw [ho];rfl
  cases cn with
  | false=>exact e
  | true =>
   change opC P C E.glob tm o (qs0 lit P E.glob tm h o)=_
   unfold opC;rw [ho];exact e
 omit hT hr in theorem storeK_ok {cn:Bool} {o:Oper} {fr:Fr} {next:Fr→Heap→β} {nextR:Fr→Heap→Res} {h:Heap} {k:Res→β} {d:β} {ihr:Task→Res} (hn:∀ fr h,Nr bot k (next fr h) (nextR fr h)) (hd:Nr bot k d (zD0 E ihr false o fr nextR (fun v h=>.code (.panic v) fr h) (qP0 C cn (E.lit fr.fn) P E.glob fr.tm h o))):Nr bot k (yw1 P E C bot o fr next h k d) (zD0 E ihr false o fr nextR (fun v h=>.code (.panic v) fr h) (qP0 C cn (E.lit fr.fn) P E.glob fr.tm h o)):=by
  unfold yw1
  split
  ·rename_i t a x ho
   split
   ·rename_i r ver off hev
    cases symR C h r with
    | false=>exact hd
    | true =>
     simp only [cond_true]
     split
     ·rename_i v hx
      split
      ·rename_i ver' ty sz pub cap es hg
       refine .need fun hv=>.need fun hs=>?_
       have e0:qs0 (E.lit fr.fn) P E.glob fr.tm h o=ZI0 P E.glob fr.tm h t a x:=by
        rw [zC0 (fun _ _ _ e=>by rw [ho] at e;cases e)]
        unfold qV0;rw [ho];rfl
       have e1:qP0 C cn (E.lit fr.fn) P E.glob fr.tm h o=.skip (h.set r (.row ver ty sz pub cap (yG0 sz es off v))):=by
        have e2:qP0 C cn (E.lit fr.fn) P E.glob fr.tm h o=qs0 (E.lit fr.fn) P E.glob fr.tm h o:=by
         cases cn with
         | false=>rfl
         | true =>
          change opC P C E.glob fr.tm o (qs0 (E.lit fr.fn) P E.glob fr.tm h o)=_
          unfold opC;rw [ho]
        rw [e2,e0]
        unfold ZI0
        rw [hev]
        simp only [hx]
        rw [Qw2 hg hv hs]
       rw [e1]
       exact goK_ok hn
      ·exact hd
     ·exact hd
   ·exact hd
  ·exact hd
 omit hT hr in theorem shiftK_ok {cn:Bool} {o:Oper} {fr:Fr} {next:Fr→Heap→β} {nextR:Fr→Heap→Res} {h:Heap} {k:Res→β} {d:β} {ihr:Task→Res} (hn:∀ fr h,Nr bot k (next fr h) (nextR fr h)) (hd:Nr bot k d (zD0 E ihr false o fr nextR (fun v h=>.code (.panic v) fr h) (qP0 C cn (E.lit fr.fn) P E.glob fr.tm h o))):Nr bot k (yt1 E C bot o fr next h k d) (zD0 E ihr false o fr nextR (fun v h=>.code (.panic v) fr h) (qP0 C cn (E.lit fr.fn) P E.glob fr.tm h o)):=by
  unfold yt1
  split
  ·rename_i op t x y c ho
   cases hc:(C.shf fr.fn&&isShr op) with
   | false=>exact hd
   | true =>
    simp only [cond_true]
    split
    ·rename_i kk a hx
     split
     ·rename_i kb b hy
      refine .need fun hφ=>?_
      have hop:op=.shr:=by
       simp only [Bool.and_eq_true] at hc
       revert hc
       cases op <;> intro hc <;> first | rfl | cases hc.2
      subst hop
      have e0:qs0 (E.lit fr.fn) P E.glob fr.tm h o=o2 E.glob fr.tm h x y (binOp P h t (qW0 x||qW0 y) .shr):=by
       rw [zC0 (fun _ _ _ e=>by rw [ho] at e;cases e)]
       unfold qV0;rw [ho];rfl
      have e2:qP0 C cn (E.lit fr.fn) P E.glob fr.tm h o=qs0 (E.lit fr.fn) P E.glob fr.tm h o:=by
       cases cn with
       | false=>rfl
       | true =>
        change opC P C E.glob fr.tm o (qs0 (E.lit fr.fn) P E.glob fr.tm h o)=_
        unfold opC;rw [ho]
      have e1:qP0 C cn (E.lit fr.fn) P E.glob fr.tm h o=.val (.int kk (a/2^b.toNat)) h:=by
       rw [e2,e0,Jw0,hx]
       simp only [hy]
       change ql0 h (bif QU0 .shr||zp0 kk kb then qL0 .shr kk a b else none)=_
       change ql0 h (qL0 .shr kk a b)=_
       rw [hφ];rfl
      rw [e1]
      exact goK_ok hn
     ·exact hd
    ·exact hd
  ·exact hd
 omit hT hr in theorem appK_ok {cn:Bool} {o:Oper} {fr:Fr} {next:Fr→Heap→β} {nextR:Fr→Heap→Res} {h:Heap} {k:Res→β} {d:β} {ihr:Task→Res} (hn:∀ fr h,Nr bot k (next fr h) (nextR fr h)) (hd:Nr bot k d (zD0 E ihr false o fr nextR (fun v h=>.code (.panic v) fr h) (qP0 C cn (E.lit fr.fn) P E.glob fr.tm h o))):Nr bot k (appK P E C o fr next h k d) (zD0 E ihr false o fr nextR (fun v h=>.code (.panic v) fr h) (qP0 C cn (E.lit fr.fn) P E.glob fr.tm h o)):=by
  unfold appK
  split
  ·rename_i c ho
   split
   ·rename_i b hb
    split
    ·split
     ·rename_i x y hm
      split
      ·rename_i t u hty
       split
       ·rename_i sz es
        split
        ·rename_i e he
         cases hc:(C.apf fr.fn&&yn0 P u&&recvA x&&Nat.beq sz (size P e)&&!(Nat.beq (size P e) 0)) with
         | false=>exact hd
         | true =>
          simp only [cond_true]
          cases hes:qw0 es with
          | false=>exact hd
          | true =>
           have hes:es=[]:=by cases es with
            | nil=>rfl
            | cons _ _=>cases hes
           subst hes
           simp only [Bool.and_eq_true,Bool.not_eq_true',Nat.beq_eq] at hc
           obtain ⟨⟨⟨⟨_,c1⟩,c2⟩,c3⟩,c4⟩:=hc
           subst c3
           have e0:qs0 (E.lit fr.fn) P E.glob fr.tm h o=zU0 P E.glob fr.tm h c:=by
            rw [zC0 (fun _ _ _ e=>by rw [ho] at e;cases e)]
            unfold qV0;rw [ho];rfl
           have e2:qP0 C cn (E.lit fr.fn) P E.glob fr.tm h o=qs0 (E.lit fr.fn) P E.glob fr.tm h o:=by
            cases cn with
            | false=>rfl
            | true =>
             change opC P C E.glob fr.tm o (qs0 (E.lit fr.fn) P E.glob fr.tm h o)=_
             unfold opC;rw [ho]
           have e3:zU0 P E.glob fr.tm h c=.val x h:=by
            rw [Zr1,hm]
            simp only [hb,hty]
            change (bif yn0 P u then append P t h x (.osl (size P e) []) else _)=_
            rw [c1]
            simp only [cond_true]
            have hn0:newS P h (size P e) (.osl (size P e) [])=some []:=by
             change (bif Nat.beq (size P e) (size P e) then some [] else none)=_
             rw [show Nat.beq (size P e) (size P e)=true by simp];rfl
            rw [yM1 he (Zm1 hn0) c4]
            revert c2
            cases x <;> intro c2 <;> first | rfl | cases c2
           rw [e2,e0,e3]
           exact goK_ok hn
        ·exact hd
       ·exact hd
      ·exact hd
     ·exact hd
    ·exact hd
   ·exact hd
  ·exact hd
 omit hT hr in theorem opE_cn {cn:Bool} {o:Oper} {fr:Fr} {h:Heap} (hl:∀ r,opC P C E.glob fr.tm o r=r):qP0 C cn (E.lit fr.fn) P E.glob fr.tm h o=qs0 (E.lit fr.fn) P E.glob fr.tm h o:=by
  cases cn with
  | false=>rfl
  | true=>exact hl _
 omit hT hr in theorem orK_ok {cn:Bool} {o:Oper} {fr:Fr} {next:Fr→Heap→β} {nextR:Fr→Heap→Res} {h:Heap} {k:Res→β} {d:β} {ihr:Task→Res} (hn:∀ fr h,Nr bot k (next fr h) (nextR fr h)) (hd:Nr bot k d (zD0 E ihr false o fr nextR (fun v h=>.code (.panic v) fr h) (qP0 C cn (E.lit fr.fn) P E.glob fr.tm h o))):Nr bot k (orK E C bot o fr next h k d) (zD0 E ihr false o fr nextR (fun v h=>.code (.panic v) fr h) (qP0 C cn (E.lit fr.fn) P E.glob fr.tm h o)):=by
  unfold orK
  split
  ·rename_i op t x y c ho
   cases hc:(C.nxt fr.fn&&isOr op) with
   | false=>exact hd
   | true =>
    simp only [cond_true]
    split
    ·rename_i kk a hx
     split
     ·rename_i kb b hy
      refine .need fun ⟨hk,hφ⟩=>?_
      subst hk
      have hop:op=.or:=by
       simp only [Bool.and_eq_true] at hc
       revert hc
       cases op <;> intro hc <;> first | rfl | cases hc.2
      subst hop
      have e0:qs0 (E.lit fr.fn) P E.glob fr.tm h o=o2 E.glob fr.tm h x y (binOp P h t (qW0 x||qW0 y) .or):=by
       rw [zC0 (fun _ _ _ e=>by rw [ho] at e;cases e)]
       unfold qV0;rw [ho];rfl
      have e2:qP0 C cn (E.lit fr.fn) P E.glob fr.tm h o=qs0 (E.lit fr.fn) P E.glob fr.tm h o:=opE_cn fun r=>by unfold opC;rw [ho]
      have e1:qP0 C cn (E.lit fr.fn) P E.glob fr.tm h o=.val (.int kk (orN a b)) h:=by
       rw [e2,e0,Jw0,hx]
       simp only [hy]
       change ql0 h (bif QU0 .or||zp0 kk kk then qL0 .or kk a b else none)=_
       rw [show zp0 kk kk=true by cases kk <;> rfl]
       change ql0 h (qL0 .or kk a b)=_
       rw [hφ];rfl
      rw [e1]
      exact goK_ok hn
     ·exact hd
    ·exact hd
  ·exact hd
 omit hT hr in theorem nextK_ok {cn:Bool} {o:Oper} {fr:Fr} {next:Fr→Heap→β} {nextR:Fr→Heap→Res} {h:Heap} {k:Res→β} {d:β} {ihr:Task→Res} (hn:∀ fr h,Nr bot k (next fr h) (nextR fr h)) (hd:Nr bot k d (zD0 E ihr false o fr nextR (fun v h=>.code (.panic v) fr h) (qP0 C cn (E.lit fr.fn) P E.glob fr.tm h o))):Nr bot k (zP1 E C o fr next h k d) (zD0 E ihr false o fr nextR (fun v h=>.code (.panic v) fr h) (qP0 C cn (E.lit fr.fn) P E.glob fr.tm h o)):=by
  unfold zP1
  split
  ·rename_i it isString ho
   cases hc:(C.nxt fr.fn&&isString) with
   | false=>exact hd
   | true =>
    have hs:isString=true:=by simp only [Bool.and_eq_true] at hc;exact hc.2
    subst hs
    simp only [cond_true]
    split
    ·rename_i r hev
     split
     ·rename_i s pos hget
      have e0:qs0 (E.lit fr.fn) P E.glob fr.tm h o=QZ0 E.glob fr.tm h it true:=by
       rw [zC0 (fun _ _ _ e=>by rw [ho] at e;cases e)]
       unfold qV0;rw [ho];rfl
      have e2:qP0 C cn (E.lit fr.fn) P E.glob fr.tm h o=qs0 (E.lit fr.fn) P E.glob fr.tm h o:=opE_cn fun r=>by unfold opC;rw [ho]
      have hN:QZ0 E.glob fr.tm h it true=bif Nat.blt pos (List.len s) then .val (.tup [.bool true,.int .i64 (Int.ofNat pos),.int .i32 (Int.ofNat (Utf8.decode ⟨⟨s⟩⟩ pos).1)]) (h.set r (.siter s (Nat.add pos (Utf8.decode ⟨⟨s⟩⟩ pos).2))) else .val (.tup [.bool false]) h:=by
       unfold QZ0
       simp only [cond_true,hev,hget]
      by_cases hlt:pos<s.length
      ·have e1:Nat.blt pos (List.len s)=true:=by rw [Nat.blt_eq,List.len_eq];exact hlt
       rw [decide_eq_true hlt,cond_true,e2,e0,hN,e1]
       exact goK_ok hn
      ·have e1:Nat.blt pos (List.len s)=false:=by
        rw [Bool.eq_false_iff];intro q;rw [Nat.blt_eq,List.len_eq] at q;exact hlt q
       rw [decide_eq_false hlt,cond_false,e2,e0,hN,e1]
       exact goK_ok hn
     ·exact hd
    ·exact hd
  ·exact hd
theorem Zu1 {cn:Bool} {o:Oper} {fr:Fr} {next:Fr→Heap→β} {nextR:Fr→Heap→Res} {h:Heap} {k:Res→β} (hn:∀ fr h,Nr bot k (next fr h) (nextR fr h)):Nr bot k (opK P E C Tb ih0 bot rec cn o fr next h k) (zD0 E (qn0 C ih0 ih) false o fr nextR (fun v h=>.code (.panic v) fr h) (qP0 C cn (E.lit fr.fn) P E.glob fr.tm h o)):=by
 unfold opK
 split
 ·rename_i t m key ok ho
  rw [lookup_op (P:=P) (E:=E) (cn:=cn) ho,Jw0]
  generalize AM.ev E.glob fr.tm m=o1
  cases o1 with
  | none=>exact .self
  | some mv =>
   simp only
   generalize AM.ev E.glob fr.tm key=o2
   cases o2 with
   | none=>exact .self
   | some kv =>
    simp only
    rw [QP1]
    cases lookup P h t ok mv kv with
    | none=>exact .self
    | some v=>exact goK_ok hn
 ·exact shiftK_ok hn (storeK_ok hn (appK_ok hn (orK_ok hn (nextK_ok hn (zD2 hT hr hn)))))
theorem zJ2 (all l:List Oper):∀ (fr:Fr) (h:Heap) (k:Res→β),Nr bot k (ZL0 P E C Tb ih0 bot rec false all l fr h k) (Yy0 P E (qn0 C ih0 ih) all l fr h):=by
 induction l with
 | nil=>intro fr h k;exact .self
 | cons o l IH =>
  intro fr h k
  change Nr bot k (match wanted all fr o with
   | none=>k (.none fr.fn (some o))
   | some b=>Bool.rec (goK o fr (fun fr h=>ZL0 P E C Tb ih0 bot rec false all l fr h k) undef h k) (opK P E C Tb ih0 bot rec false o fr (fun fr h=>ZL0 P E C Tb ih0 bot rec false all l fr h k) h k) b) (XO0 P E (qn0 C ih0 ih) all o (Yy0 P E (qn0 C ih0 ih) all l) fr h)
  unfold XO0
  cases wanted all fr o with
  | none=>exact .self
  | some b =>
   cases b with
   | false=>exact goK_ok fun fr h=>IH fr h k
   | true=>exact Zu1 (cn:=false) hT hr fun fr h=>IH fr h k
 omit hT hr in theorem preK_ok {o:Oper} {fr:Fr} {h:Heap} {kk:Fr→Heap→β} {σ:Type} {k:σ→β} {f:Fr→Heap→σ} (hk:∀ fr h,Nr bot k (kk fr h) (f fr h)):Nr bot k (preK C bot o fr h kk) (f (ye0 C fr h o).1 (ye0 C fr h o).2):=by
  unfold preK ye0
  cases o.op with
  | store t a v =>
   cases v with
   | tmp i =>
    simp only
    cases C.ps fr.fn t with
    | none=>exact hk fr h
    | some b =>
     simp only
     unfold preF
     cases Nat.blt i fr.n with
     | false=>exact hk fr h
     | true =>
      simp only [cond_true]
      cases js0 (fr.at' i) with
      | none=>exact hk fr h
      | some v =>
       simp only
       unfold preV
       cases b with
       | false=>exact hk _ _
       | true =>
        refine (ZG1 (C:=C) (bot:=bot) (d:=38) (by decide) h v _).then ?_
        change Nr bot k (match AM.pub [] depth h v with
         | some p=>kk (fr.st i (C.nz fr.fn t p.1)) p.2
         | none=>kk fr h) _
        simp only
        cases pub [] depth h v with
        | none=>exact hk fr h
        | some p=>obtain ⟨v',h'⟩:=p;exact hk _ _
   | _=>exact hk fr h
  | _=>exact hk fr h
theorem zI2 (all l:List Oper):∀ (fr:Fr) (h:Heap) (k:Res→β),Nr bot k (ZL0 P E C Tb ih0 bot rec true all l fr h k) (Yz0 P E C (qn0 C ih0 ih) all l fr h):=by
 induction l with
 | nil=>intro fr h k;exact .self
 | cons o l IH =>
  intro fr h k
  change Nr bot k (preK C bot o fr h (fun fr h=>match wanted all fr o with
   | none=>k (.none fr.fn (some o))
   | some b=>Bool.rec (goK o fr (fun fr h=>ZL0 P E C Tb ih0 bot rec true all l fr h k) undef h k) (opK P E C Tb ih0 bot rec true o fr (fun fr h=>ZL0 P E C Tb ih0 bot rec true all l fr h k) h k) b)) (JG0 P E C (qn0 C ih0 ih) all o (Yz0 P E C (qn0 C ih0 ih) all l) (ye0 C fr h o).1 (ye0 C fr h o).2)
  refine preK_ok (f:=fun fr h=>JG0 P E C (qn0 C ih0 ih) all o (Yz0 P E C (qn0 C ih0 ih) all l) fr h) fun fr h=>?_
  unfold JG0
  cases wanted all fr o with
  | none=>exact .self
  | some b =>
   cases b with
   | false=>exact goK_ok fun fr h=>IH fr h k
   | true=>exact Zu1 (cn:=true) hT hr fun fr h=>IH fr h k
 omit hT hr in theorem lookup_opL {o:Oper} {tm:T V} {h:Heap} {t:TypeId} {m key:Operand} {ok:Bool} (ho:o.op=.lookup t m key ok):qz0 P E.glob tm h o=o2 E.glob tm h m key (lookup P h t ok):=by
  have e:qV0 P E.glob tm h o=o2 E.glob tm h m key (lookup P h t ok):=by
   unfold qV0;rw [ho];rfl
  rw [← e]
  unfold qz0
  split
  ·rename_i t len ps e;rw [ho] at e;cases e
  ·rfl
theorem Xs1 (tm:T V) (h:Heap) (o:Oper) (k:Outc→β):Nr bot k (qG1 P E C Tb ih0 bot rec tm h o k) (qv0 P E (qn0 C ih0 ih) tm h o):=by
 unfold qG1 qv0
 have hok:=QJ1 (P:=P) (C:=C) E.glob tm h o
 generalize Jm0 C P E.glob tm h o=r at hok
 cases r with
 | val v h1 =>
  rw [show qz0 P E.glob tm h o=.val v h1 from hok]
  exact .self
 | obl v h1 φ =>
  refine .need fun hφ=>?_
  rw [show qz0 P E.glob tm h o=.val v h1 from hok hφ]
  exact .self
 | skip h1 =>
  rw [show qz0 P E.glob tm h o=.skip h1 from hok]
  exact .self
 | no =>
  simp only
  cases qz0 P E.glob tm h o with
  | call f args h'=>exact (jl1 hT hr true f args h' _).then .self
  | yield l args h'=>exact (zB0 hT hr _ _).then .self
  | _=>exact .self
theorem Xt1 (tm:T V) (h:Heap) (o:Oper) (k:Outc→β):Nr bot k (qF1 P E C Tb ih0 bot rec tm h o k) (qv0 P E (qn0 C ih0 ih) tm h o):=by
 unfold qF1
 split
 ·rename_i t m key ok ho
  unfold qv0
  rw [lookup_opL (P:=P) (E:=E) ho,Jw0]
  generalize AM.ev E.glob tm m=o1
  cases o1 with
  | none=>exact .self
  | some mv =>
   simp only
   generalize AM.ev E.glob tm key=o2
   cases o2 with
   | none=>exact .self
   | some kv =>
    simp only
    rw [QP1]
    cases lookup P h t ok mv kv <;> exact .self
 ·exact Xs1 hT hr tm h o k
 omit hT hr in def InvD (P:Program) (E:Env) (ihr:Task→Res) (hs:List Hp) (h:Heap) (rs:List Rc) (ix:List Nat):Prop :=
  ∀ (i:Nat) (r:Rc) (j:Nat),rs[i]?=some r→ix[i]?=some j→j≤hs.length∧(j=hs.length→∃ h',qv0 P E ihr r.tm h r.o=.val r.v h')∧∀ e,j<hs.length→hs[hs.length-1-j]?=some e→∃ h',qv0 P E ihr r.tm e.h r.o=.val r.v h'
 omit hT hr in theorem InvD.write {ihr:Task→Res} {hs:List Hp} {h h':Heap} {rs:List Rc} {ix:List Nat} (hi:InvD P E ihr hs h rs ix) (e:Hp) (he:e.h=h):InvD P E ihr (e::hs) h' rs ix:=fun i r j p q=>by
  obtain ⟨h1,h2,h3⟩:=hi i r j p q
  refine ⟨by simp only [List.length_cons];omega,fun w=>by simp only [List.length_cons] at w;omega,fun x hx hx'=>?_⟩
  simp only [List.length_cons,Nat.add_sub_cancel] at hx hx'
  rcases Nat.lt_or_ge j hs.length with w | w
  ·refine h3 x w ?_
   rw [show hs.length-j=(hs.length-1-j)+1 by omega,List.getElem?_cons_succ] at hx'
   exact hx'
  ·have:j=hs.length:=by omega
   subst this
   rw [Nat.sub_self] at hx'
   simp at hx'
   subst hx'
   rw [he];exact h2 rfl
 omit hT hr in theorem InvD.read {ihr:Task→Res} {hs:List Hp} {h:Heap} {rs:List Rc} {ix:List Nat} (hi:InvD P E ihr hs h rs ix) (r:Rc) (hd:∃ h',qv0 P E ihr r.tm h r.o=.val r.v h'):InvD P E ihr hs h (r::rs) (List.len hs::ix):=fun i r' j p q=>by
  cases i with
  | zero =>
   simp at p q
   subst p;subst q
   rw [List.len_eq]
   exact ⟨Nat.le_refl _,fun _=>hd,fun x w=>absurd w (Nat.lt_irrefl _)⟩
  | succ i=>exact hi i r' j (by simpa using p) (by simpa using q)
 omit hT hr in def EndD (P:Program) (E:Env) (ihr:Task→Res) (r:DR) (ix:List Nat):Prop :=
  match r with
  | .done _ _ hps rcs _=>∀ (i:Nat) (r:Rc) (j:Nat) (e:Hp),rcs[i]?=some r→ix[i]?=some j→j<hps.length→hps[hps.length-1-j]?=some e→∃ h',qv0 P E ihr r.tm e.h r.o=.val r.v h'
  | .stuck _=>True
 omit hT hr in def NrD (P:Program) (E:Env) (ihr:Task→Res) (bot:β) (kk:DR→List Nat→β) (e:β) (r:DR):Prop:=e=bot∨∃ ix,e=kk r ix∧EndD P E ihr r ix
 omit hT hr in theorem NrD.stuck {ihr:Task→Res} {kk:DR→List Nat→β} {o:Option Oper} {ix:List Nat}:NrD P E ihr bot kk (kk (.stuck o) ix) (.stuck o):=.inr ⟨ix,rfl,trivial⟩
 omit hT hr in theorem dPutK_D {ihr:Task→Res} {o:Oper} {v:V} {fr:Fr} {next:Fr→β} {nextR:Fr→DR} {kk:DR→List Nat→β} {ix:List Nat} (hn:∀ fr,NrD P E ihr bot kk (next fr) (nextR fr)):NrD P E ihr bot kk (YT0 o v fr next (fun r=>kk r ix)) (Zr0 o v fr nextR):=by
  unfold YT0 Zr0
  rw [Yl1]
  cases fr.put o.dst v with
  | none=>exact .stuck
  | some fr'=>exact hn fr'
 omit hT hr in theorem dValK_ok {ihr:Task→Res} {d:DOp} {next:Fr→Heap→Nat→List Hp→List Rc→Option Pn→List Nat→β} {nextR:DK} {kk:DR→List Nat→β} (hn:∀ fr h pb hs rs pan ix,InvD P E ihr hs h rs ix→NrD P E ihr bot kk (next fr h pb hs rs pan ix) (nextR fr h pb hs rs pan)) (fr:Fr) (h:Heap) (pb:Nat) (hs:List Hp) (rs:List Rc) (pan:Option Pn) (ix:List Nat) (hi:InvD P E ihr hs h rs ix) (r:Outc) (hr:qv0 P E ihr fr.tm h d.o=r) :
  NrD P E ihr bot kk (Kz0 E d next fr h pb hs rs pan ix kk r) (dVal E d nextR fr h pb hs rs pan r):=by
  unfold Kz0 dVal
  cases r with
  | val v h' =>
   simp only
   cases d.w with
   | true =>
    cases zw0 pan with
    | true=>exact dPutK_D (o:=d.o) (v:=v) (fr:=fr) (ix:=ix) fun fr'=>hn fr' h' d.b (⟨pb,h,some d.i⟩::hs) rs pan ix (hi.write ⟨pb,h,some d.i⟩ rfl)
    | false=>exact .stuck
   | false =>
    refine dPutK_D fun fr'=>hn _ _ _ _ _ _ _ ?_
    cases yb0 E d.o.op with
    | true=>exact hi
    | false=>exact hi.read ⟨d.o,d.i,d.b,fr.tm,v⟩ ⟨h',hr⟩
  | panic v h' =>
   simp only
   cases (d.w&&zw0 pan) with
   | true=>exact hn _ _ _ _ _ _ _ (hi.write _ rfl)
   | false=>exact .stuck
  | stuck=>exact .stuck
theorem Xj1 (all:List Oper) (l:List DOp):∀ (fr:Fr) (h:Heap) (pb:Nat) (hs:List Hp) (rs:List Rc) (pan:Option Pn) (ix:List Nat) (kk:DR→List Nat→β),InvD P E (qn0 C ih0 ih) hs h rs ix→NrD P E (qn0 C ih0 ih) bot kk (Xi0 P E C Tb ih0 bot rec all l fr h pb hs rs pan ix kk) (ji0 P E (qn0 C ih0 ih) all l fr h pb hs rs pan):=by
 induction l with
 | nil =>
  intro fr h pb hs rs pan ix kk hi
  refine .inr ⟨ix,rfl,?_⟩
  change EndD P E (qn0 C ih0 ih) (.done fr h (bif zw0 pan then ⟨pb,h,none⟩::hs else hs) rs pan) ix
  intro i r j e p q w hx
  cases hp:zw0 pan with
  | true =>
   rw [hp] at w hx
   exact (hi.write (h':=h) ⟨pb,h,none⟩ rfl i r j p q).2.2 e w hx
  | false =>
   rw [hp] at w hx
   exact (hi i r j p q).2.2 e w hx
 | cons d l IH =>
  intro fr h pb hs rs pan ix kk hi
  change NrD P E (qn0 C ih0 ih) bot kk (qD1 P E C Tb ih0 bot rec all d (fun fr h pb hs rs pan ix=>Xi0 P E C Tb ih0 bot rec all l fr h pb hs rs pan ix kk) fr h pb hs rs pan ix kk) (Xj0 P E (qn0 C ih0 ih) all d (ji0 P E (qn0 C ih0 ih) all l) fr h pb hs rs pan)
  unfold qD1 Xj0
  cases XH0 pan d.b with
  | true=>exact IH _ _ _ _ _ _ _ _ hi
  | false =>
   simp only [cond_false]
   cases wanted all fr d.o with
   | none=>exact .stuck
   | some t =>
    cases t with
    | true =>
     simp only [cond_true]
     rcases Xt1 (C:=C) hT hr fr.tm h d.o (fun r=>Kz0 E d (fun fr h pb hs rs pan ix=>Xi0 P E C Tb ih0 bot rec all l fr h pb hs rs pan ix kk) fr h pb hs rs pan ix kk r) with q | q
     ·exact .inl q
     ·rw [q]
      exact dValK_ok (fun fr h pb hs rs pan ix hi=>IH fr h pb hs rs pan ix kk hi) fr h pb hs rs pan ix hi _ rfl
    | false =>
     simp only [cond_false]
     cases d.w with
     | true =>
      cases zw0 pan with
      | true=>exact dPutK_D (o:=d.o) (v:=undef) (fr:=fr) (ix:=ix) fun fr'=>IH fr' h d.b (⟨pb,h,some d.i⟩::hs) rs pan ix kk (hi.write ⟨pb,h,some d.i⟩ rfl)
      | false=>exact .stuck
     | false=>exact dPutK_D (o:=d.o) (v:=undef) (fr:=fr) (ix:=ix) fun fr'=>IH fr' h pb hs rs pan ix kk hi
 omit hT hr in theorem orD_self {b:Bool} {p:Prop} (h:p):orD b p=true:=by
  unfold orD
  cases b with
  | true=>rfl
  | false=>exact @decide_eq_true p (Classical.propDecidable p) h
 omit hT hr in theorem ckOneK_ok {ihr:Task→Res} (r:Rc) (e:Hp) (x:β):YS0 P E C bot r e x=bot∨(YS0 P E C bot r e x=x∧jh0 P E ihr r e=true):=by
  unfold YS0 jh0
  cases tb e.pb r.i with
  | true=>exact .inr ⟨rfl,rfl⟩
  | false =>
   cases QX0 r.b e.nx with
   | true=>exact .inr ⟨rfl,rfl⟩
   | false =>
    simp only [cond_false]
    unfold ju1
    split
    ·rename_i t m key ok ho
     unfold qv0
     rw [lookup_opL (P:=P) (E:=E) ho,Jw0]
     generalize AM.ev E.glob r.tm m=o1
     cases o1 with
     | none=>exact .inl rfl
     | some mv =>
      simp only
      generalize AM.ev E.glob r.tm key=o2
      cases o2 with
      | none=>exact .inl rfl
      | some kv =>
       simp only
       rcases Yp0 (bot:=bot) (φ:=lookup P e.h t ok mv kv=some r.v) (x:=x) with q | ⟨hv,q⟩
       ·exact .inl q
       ·rw [q,hv];exact .inr ⟨rfl,orD_self rfl⟩
    unfold jv1
    have hok:=QJ1 (P:=P) (C:=C) E.glob r.tm e.h r.o
    unfold qv0
    generalize Jm0 C P E.glob r.tm e.h r.o=q at hok
    cases q with
    | val v h1 =>
     rw [show qz0 P E.glob r.tm e.h r.o=.val v h1 from hok]
     simp only
     rcases Yp0 (bot:=bot) (φ:=r.v=v) (x:=x) with q | ⟨hv,q⟩
     ·exact .inl q
     ·rw [q];exact .inr ⟨rfl,orD_self hv⟩
    | obl v h1 φ =>
     simp only
     rcases Yp0 (bot:=bot) (φ:=φ) (x:=need bot (r.v=v) x) with q | ⟨hφ,q⟩
     ·exact .inl q
     ·rw [q,show qz0 P E.glob r.tm e.h r.o=.val v h1 from hok hφ]
      rcases Yp0 (bot:=bot) (φ:=r.v=v) (x:=x) with q | ⟨hv,q⟩
      ·exact .inl q
      ·rw [q];exact .inr ⟨rfl,orD_self hv⟩
    | skip h1 =>
     rw [show qz0 P E.glob r.tm e.h r.o=.skip h1 from hok]
     simp only
     rcases Yp0 (bot:=bot) (φ:=r.v=undef) (x:=x) with q | ⟨hv,q⟩
     ·exact .inl q
     ·rw [q];exact .inr ⟨rfl,orD_self hv⟩
    | no=>exact .inl rfl
 omit hT hr in theorem ckOne_here {ihr:Task→Res} {r:Rc} {e:Hp} (h:∃ h',qv0 P E ihr r.tm e.h r.o=.val r.v h'):jh0 P E ihr r e=true:=by
  obtain ⟨h',hd⟩:=h
  unfold jh0
  rw [hd]
  change (bif tb e.pb r.i then true else bif QX0 r.b e.nx then true else orD (veq depth r.v r.v) (r.v=r.v))=true
  rw [orD_self (b:=veq depth r.v r.v) (p:=r.v=r.v) rfl]
  cases tb e.pb r.i <;> cases QX0 r.b e.nx <;> rfl
 omit hT hr in theorem ckRowK_ok {ihr:Task→Res} (r:Rc) (j:Option Nat) (x:β):∀ (hps:List Hp),(∀ q e,j=some q→q<hps.length→hps[hps.length-1-q]?=some e→∃ h',qv0 P E ihr r.tm e.h r.o=.val r.v h')→yR0 P E C bot r j hps x=bot∨(yR0 P E C bot r j hps x=x∧zj0 (jh0 P E ihr r) hps=true):=by
  intro hps
  induction hps with
  | nil=>intro _;exact .inr ⟨rfl,rfl⟩
  | cons e l IH =>
   intro hj
   have IH':=IH fun q e' hq hl he=>hj q e' hq (by simp only [List.length_cons];omega) (by
    simp only [List.length_cons,Nat.add_sub_cancel]
    rw [show l.length-q=(l.length-1-q)+1 by omega,List.getElem?_cons_succ];exact he)
   change (bif yX0 j (some (List.len l)) then yR0 P E C bot r j l x else YS0 P E C bot r e (yR0 P E C bot r j l x))=bot∨((bif yX0 j (some (List.len l)) then yR0 P E C bot r j l x else YS0 P E C bot r e (yR0 P E C bot r j l x))=x∧(bif jh0 P E ihr r e then zj0 (jh0 P E ihr r) l else false)=true)
   cases hb:yX0 j (some (List.len l)) with
   | true =>
    have hj2:=Gq0 _ _ hb
    rw [List.len_eq] at hj2
    have:=ckOne_here (hj l.length e hj2 (by simp) (by simp))
    rw [this]
    exact IH'
   | false =>
    simp only [cond_false]
    rcases ckOneK_ok (C:=C) (ihr:=ihr) r e (yR0 P E C bot r j l x) with h | ⟨h1,h2⟩
    ·exact .inl h
    ·rw [h1,h2]
     exact IH'
 omit hT hr in theorem ckAllK_ok {ihr:Task→Res} (hps:List Hp) (x:β) (rcs:List Rc):∀ (ix:List Nat),(∀ (i:Nat) (r:Rc) (j:Nat) (e:Hp),rcs[i]?=some r→ix[i]?=some j→j<hps.length→hps[hps.length-1-j]?=some e→∃ h',qv0 P E ihr r.tm e.h r.o=.val r.v h')→YR0 P E C bot hps rcs x ix=bot∨(YR0 P E C bot hps rcs x ix=x∧Yc0 P E ihr hps rcs=true):=by
  induction rcs with
  | nil=>intro ix _;exact .inr ⟨rfl,rfl⟩
  | cons r l IH =>
   intro ix hx
   have key:∀ j ix',(∀ q e,j=some q→q<hps.length→hps[hps.length-1-q]?=some e→∃ h',qv0 P E ihr r.tm e.h r.o=.val r.v h')→(∀ (i:Nat) (r:Rc) (j:Nat) (e:Hp),l[i]?=some r→ix'[i]?=some j→j<hps.length→hps[hps.length-1-j]?=some e→∃ h',qv0 P E ihr r.tm e.h r.o=.val r.v h')→yR0 P E C bot r j hps (YR0 P E C bot hps l x ix')=bot∨(yR0 P E C bot r j hps (YR0 P E C bot hps l x ix')=x∧Yc0 P E ihr hps (r::l)=true):=fun j ix' h1 h2=>by
    rcases ckRowK_ok (C:=C) r j (YR0 P E C bot hps l x ix') hps h1 with h | ⟨h3,h4⟩
    ·exact .inl h
    ·rcases IH ix' h2 with h | ⟨h5,h6⟩
     ·left;rw [h3,h]
     ·right
      refine ⟨h3.trans h5,?_⟩
      change (bif zj0 (jh0 P E ihr r) hps then Yc0 P E ihr hps l else false)=true
      rw [h4,h6];rfl
   cases ix with
   | nil=>exact key none [] (fun q e hq=>by cases hq) (fun i r' j e _ q=>by simp at q)
   | cons j ix=>exact key (some j) ix (fun q e hq hl he=>by cases hq;exact hx 0 r j e rfl rfl hl he) (fun i r' j' e p q=>hx (i+1) r' j' e (by simpa using p) (by simpa using q))
theorem Xy1 (all:List Oper) (fr:Fr) (h:Heap) (k:Res→β):Nr bot k (qI1 P E C Tb ih0 bot rec all fr h k) (XT0 P E (qn0 C ih0 ih) all fr h):=by
 unfold qI1 XT0
 generalize (bif P.follows .mixedOrders then Ye0 E all else none)=o1
 cases o1 with
 | none=>exact .self
 | some l =>
  change Nr bot k (Xi0 P E C Tb ih0 bot rec all l fr h 0 [] [] none [] (fun r ix=>KC0 P E C bot l fr.fn k r ix)) (KB0 P E (qn0 C ih0 ih) l fr.fn (ji0 P E (qn0 C ih0 ih) all l fr h 0 [] [] none))
  rcases Xj1 (C:=C) hT hr all l fr h 0 [] [] none [] (fun r ix=>KC0 P E C bot l fr.fn k r ix) (fun i r j p=>by simp at p) with q | ⟨ix,q,hE⟩
  ·exact .inl q
  rw [q]
  generalize ji0 P E (qn0 C ih0 ih) all l fr h 0 [] [] none=r at hE
  unfold KC0 KB0
  cases r with
  | stuck o=>exact .self
  | done fr' h' hps rcs pan =>
   simp only
   cases QW0 l with
   | true=>cases pan <;> exact .self
   | false =>
    simp only [cond_false,Bool.false_or]
    have hE':∀ (i:Nat) (r:Rc) (j:Nat) (e:Hp),rcs[i]?=some r→ix[i]?=some j→j<hps.length→hps[hps.length-1-j]?=some e→∃ h',qv0 P E (qn0 C ih0 ih) r.tm e.h r.o=.val r.v h':=hE
    clear hE
    rcases ckAllK_ok (C:=C) (P:=P) (E:=E) (bot:=bot) (ihr:=qn0 C ih0 ih) hps (match pan with
     | none=>k (.code .normal fr' h')
     | some p=>k (.code (.panic p.v) (zM0 l fr') p.h)) rcs ix hE' with q | ⟨q1,q2⟩
    ·exact .inl q
    ·rw [q1,q2]
     cases pan <;> exact .self
theorem Ye1 (b:Code) (k:Res→β) (r:Res):Nr bot k (seqK C Tb ih0 bot rec b k r) (ZR0 (qn0 C ih0 ih) b r):=by
 cases r with
 | code e fr h=>cases e <;> first | exact zB0 (C:=C) hT hr (.code b fr h) k | exact .self
 | _=>exact .self
theorem jS2 (b:Code) (k:Res→β) (r:Res):Nr bot k (seqL C Tb ih0 bot rec b k r) (ZR0 (ihL C (qn0 C ih0 ih)) b r):=by
 cases r with
 | code e fr h=>cases e <;> first | exact (zB0 (C:=C) hT hr (.code b fr h) (fun r=>Jq0 C bot h.n (C.live fr.fn b) k r)).then (zJ1 _ _ _ _) | exact .self
 | _=>exact .self
theorem KM1 (lid:Nat) (fr:Fr) (k:Res→β) (r:Res):Nr bot k (KD0 C Tb ih0 bot rec lid fr k r) (endLoop (qn0 C ih0 ih) lid fr r):=by
 cases r with
 | ret v h =>
  unfold KD0 endLoop
  simp only
  cases h.get lid with
  | loop st pending fn n tm ps a b d =>
   cases st <;> cases pending <;> first | exact zB0 (C:=C) hT hr (.code _ fr _) k | exact .self
  | _=>exact .self
 | _=>exact .self
theorem yt2 (f:Operand) (params:Array Tmp) (assign body:Code) (fr:Fr) (h:Heap) (k:Res→β):Nr bot k (ye1 P E C Tb ih0 bot rec f params assign body fr h k) (XU0 P E (qn0 C ih0 ih) f params assign body fr h):=by
 unfold ye1 XU0
 generalize ev E.glob fr.tm f=o1
 cases o1 with
 | none=>exact .self
 | some fv =>
  simp only
  generalize YU0 fr h=o2
  cases o2 with
  | none=>exact .self
  | some p =>
   obtain ⟨d,marks,h1⟩:=p
   simp only
   generalize Zp0 P (h1.new (.loop .ready .none fr.fn fr.n fr.tm params.toList assign body d)) fv [.func (.yield h1.n) [] []]=o3
   cases o3 with
   | call g args h2 =>
    simp only
    cases E.shared g with
    | true=>exact (zB0 (C:=C) hT hr (.call g args h2) (fun r=>KD0 C Tb ih0 bot rec h1.n { fr with marks:=marks } k r)).then (KM1 hT hr _ _ _ _)
    | false=>exact .self
   | _=>exact .self
theorem JZ1 (c:Code) (fr:Fr) (h:Heap) (k:Res→β):Nr bot k (codeK P E C Tb ih0 bot rec c fr h k) (GW0 P E C (qn0 C ih0 ih) (.code c fr h)):=by
 cases c with
 | region id ops draw =>
  cases draw with
  | true=>exact Xy1 hT hr ops.toList fr h k
  | false=>exact zI2 hT hr _ _ _ _ _
 | seq a b=>exact (zB0 (C:=C) hT hr (.code a fr h) (fun r=>seqK C Tb ih0 bot rec b k r)).then (Ye1 hT hr b k _)
 | cond c a b =>
  change Nr bot k (match ev E.glob fr.tm c with
   | some (.bool t)=>Bool.rec (zd0 C Tb ih0 bot rec (.code b fr h) k) (zd0 C Tb ih0 bot rec (.code a fr h) k) t
   | _=>k (.none fr.fn .none)) (XR0 E (qn0 C ih0 ih) c a b fr h)
  unfold XR0
  generalize ev E.glob fr.tm c=o1
  cases o1 with
  | none=>exact .self
  | some v =>
   cases v with
   | bool t=>cases t <;> exact zB0 (C:=C) hT hr (.code _ fr h) k
   | _=>exact .self
 | block id b=>exact (zB0 (C:=C) hT hr (.code b fr h) (fun r=>k (XP0 id r))).then .self
 | loop b=>exact (zB0 (C:=C) hT hr (.code b fr h) (fun r=>Jq0 C bot h.n (C.live fr.fn b) (fun r=>seqL C Tb ih0 bot rec (.loop b) k r) r)).then ((zJ1 _ _ _ _).then (jS2 hT hr (.loop b) k _))
 | rangeFunc f params assign body=>exact yt2 hT hr _ _ _ _ _ _ _
 | scope b=>exact zB0 (C:=C) hT hr (.code b fr h) k
 | _=>exact .self
theorem yO2 (f:FuncId) (fn:Func) (fr:Fr) (l:List (FuncId×List V)):∀ (p:Option V) (h:Heap) (k:Res→β),Nr bot k (ZS1 P C Tb ih0 bot rec f fn fr l p h k) (XN0 P (qn0 C ih0 ih) f fn fr l p h):=by
 induction l with
 | nil=>intro p h k;exact .self
 | cons d l IH =>
  intro p h k
  refine (zB0 (C:=C) hT hr (.dcall d.1 d.2 p h) _).then ?_
  change Nr bot k _ (match qn0 C ih0 ih (.dcall d.1 d.2 p h) with
   | .dret _ h'=>XN0 P (qn0 C ih0 ih) f fn fr l .none h'
   | .none a b=>.none a b
   | _=>.none f .none)
  cases qn0 C ih0 ih (.dcall d.1 d.2 p h) with
  | dret _ h'=>exact IH _ _ _
  | _=>exact .self
theorem KL1 (f:FuncId) (fn:Func) (k:Res→β) (r:Res):Nr bot k (qS1 P C Tb ih0 bot rec f fn k r) (qR1 P (qn0 C ih0 ih) f fn r):=by
 have body:∀ fr p h,Nr bot k (Xk0 P C Tb ih0 bot rec f fn fr p h k) (Yg0 P (qn0 C ih0 ih) f fn fr p h):=fun fr p h=>by
  unfold Xk0 Yg0
  generalize Jk0 fr.marks h=o1
  cases o1 with
  | none=>exact .self
  | some h'=>exact yO2 hT hr _ _ _ _ _ _ _
 cases r with
 | code e fr h=>cases e <;> first | exact body _ _ _ | exact .self
 | _=>exact .self
theorem JQ1 (f:FuncId) (args:List V) (h:Heap) (k:Res→β):Nr bot k (callK P C Tb ih0 bot rec f args h k) (XQ0 P E (qn0 C ih0 ih) f args h):=by
 unfold callK XQ0
 generalize P.funcs[f]?=o1
 cases o1 with
 | none=>exact .self
 | some fn =>
  simp only
  cases fn.body with
  | none =>
   simp only
   generalize Xn0 P fn args h=o2
   cases o2 <;> exact .self
  | some body =>
   simp only
   cases Nat.ble (List.len args) fn.ntmps with
   | false=>exact .self
   | true=>exact (zB0 (C:=C) hT hr (.code body ⟨f,fn.ntmps,yu0 args 0 (yj0 (ym0 fn.ntmps)),[],[],.none,.none,false⟩ h) (fun r=>qS1 P C Tb ih0 bot rec f fn k r)).then (KL1 hT hr f fn k _)
theorem Jr1 (l:Nat) (body:Code) (k:Res→β) (r:Res):Nr bot k (Ko0 C Tb ih0 bot rec l body k r) (yq1 (qn0 C ih0 ih) l body r):=by
 cases r with
 | code e fr h =>
  cases e with
  | normal =>
   unfold Ko0 yq1
   simp only
   cases h.get l with
   | loop st pend fn n tm ps a b d=>cases st <;> first | exact zB0 (C:=C) hT hr (.code body fr (h.set l (.loop .busy pend fn n tm ps a b d))) k | exact .self
   | _=>exact .self
  | _=>exact .self
 | _=>exact .self
theorem Zn2 (l:Nat) (args:List V) (h:Heap) (k:Res→β):Nr bot k (yF1 C Tb ih0 bot rec l args h k) (XV0 (qn0 C ih0 ih) l args h):=by
 unfold yF1 XV0
 cases h.get l with
 | loop st pend fn n tm ps assign body d =>
  simp only
  generalize XW0 ps n args tm=o1
  cases o1 with
  | none=>exact .self
  | some tm'=>exact (zB0 (C:=C) hT hr (.code assign ⟨fn,n,tm',[],[],some l,.none,false⟩ h) (fun r=>Ko0 C Tb ih0 bot rec l body (fun r2=>k (endRound l r2)) r)).then ((Jr1 hT hr l body (fun r2=>k (endRound l r2)) _).then .self)
 | _=>exact .self
theorem Xq1 (f:FuncId) (args:List V) (p:Option V) (h:Heap) (k:Res→β):Nr bot k (qE1 P E C Tb ih0 bot rec f args p h k) (XS0 P E (qn0 C ih0 ih) f args p h):=by
 unfold qE1 XS0
 generalize P.funcs[f]?=o1
 cases o1 with
 | none=>exact .self
 | some fn =>
  simp only
  generalize fn.body=bd
  cases bd with
  | none=>exact .self
  | some c =>
   cases c with
   | seq a rest =>
    cases a with
    | region id ops draw =>
     cases draw with
     | true=>exact .self
     | false =>
      simp only
      generalize ops.toList=l0
      cases l0 with
      | nil=>exact .self
      | cons o l =>
       simp only
       cases (Ym0 o&&qw0 fn.results.toList&&Nat.ble (List.len args) fn.ntmps) with
       | false=>exact .self
       | true =>
        simp only [cond_true]
        generalize Fr.put ⟨f,fn.ntmps,yu0 args 0 (yj0 (ym0 fn.ntmps)),[],[],.none,.none,false⟩ o.dst (Gr0 p)=o2
        cases o2 with
        | some fr1=>exact (zJ2 hT hr (o::l) l fr1 h (fun r=>seqK C Tb ih0 bot rec rest (fun r2=>k (Xl0 f r2)) r)).then ((Ye1 hT hr rest (fun r2=>k (Xl0 f r2)) _).then .self)
        | none=>exact .self
    | _=>exact .self
   | _=>exact .self
theorem Qm2 (t:Task) (k:Res→β):Nr bot k (stepK P E C Tb ih0 bot rec t k) (GW0 P E C (qn0 C ih0 ih) t):=by
 cases t with
 | code c fr h=>exact JZ1 hT hr c fr h k
 | call f args h=>exact JQ1 (E:=E) hT hr f args h k
 | yield l args h=>exact Zn2 hT hr l args h k
 | dcall f args p h=>exact Xq1 hT hr f args p h k
end ok
theorem evT_ok {P:Program} {E:Env} {C:Cf} {Tb:Task→Option Ent} {ih0:Task→Res} {β:Type} {bot:β} (hT:Zk0 ih0 Tb) (m:Nat):∀ t k,Nr bot k (evT P E C Tb ih0 bot m t k) (inn P E C ih0 m t):=by
 induction m with
 | zero=>intro t k;exact .self
 | succ m IH=>intro t k;exact Qm2 hT IH t k
def exR {α ε:Type} (R:α→Res) (Q:ε→Res) (r:Res):PR α ε :=
 @dite (PR α ε) (∃ a,r=R a) (Classical.propDecidable _) (fun h=>.ok (Classical.choose h)) (fun _=>@dite (PR α ε) (∃ n,r=Q n) (Classical.propDecidable _) (fun h=>.er (Classical.choose h)) (fun _=>.no))
theorem YX0 {α ε:Type} (s t:α→Bool) (R:Bool→Bool→α→Res) (Q:ε→Res) (r:Res):exR (fun a=>R (s a) (t a) a) Q r=.no∨Ent.res ⟨α,ε,exR (fun a=>R (s a) (t a) a) Q r,s,t,R,Q⟩=r:=by
 unfold exR Ent.res
 simp only
 by_cases h1:∃ a,r=R (s a) (t a) a
 ·rw [dif_pos h1];exact .inr (Classical.choose_spec h1).symm
 ·rw [dif_neg h1]
  by_cases h2:∃ n,r=Q n
  ·rw [dif_pos h2];exact .inr (Classical.choose_spec h2).symm
  ·rw [dif_neg h2];exact .inl rfl
theorem exR_R {α ε:Type} {R:α→Res} {Q:ε→Res} (hR:∀ a b,R a=R b→a=b) (a:α):exR R Q (R a)=.ok a:=by
 unfold exR
 have h1:∃ b,R a=R b:=⟨a,rfl⟩
 rw [dif_pos h1,← hR _ _ (Classical.choose_spec h1)]
theorem exR_Q {α ε:Type} {R:α→Res} {Q:ε→Res} (hQ:∀ a b,Q a=Q b→a=b) (hn:∀ a n,Q n≠R a) (n:ε):exR R Q (Q n)=.er n:=by
 unfold exR
 have h1:¬ ∃ b,Q n=R b:=fun ⟨b,e⟩=>hn b n e
 have h2:∃ b,Q n=Q b:=⟨n,rfl⟩
 rw [dif_neg h1,dif_pos h2,← hQ _ _ (Classical.choose_spec h2)]
def PR.bnd {α ε β:Type} (bot:β) (x:PR α ε) (f:α→β) (g:ε→β):β:=PR.rec (motive:=fun _=>β) bot f g x
def evN (P:Program) (E:Env) (C:Cf) (Tb:Task→Option Ent) (ih0:Task→Res) {β:Type} (bot:β) (t:Task) (k:Res→β):β:=evT P E C Tb ih0 bot 64 t (fun r=>match r with
 | .none _ _=>bot
 | r=>finK C bot t k r)
theorem Xm0 {P:Program} {E:Env} {C:Cf} {Tb:Task→Option Ent} {n:Nat} {β:Type} {bot:β} (hT:Zk0 (rn P E C n) Tb) (t:Task) (k:Res→β):Nr bot k (evN P E C Tb (rn P E C n) bot t k) (rn P E C (n+1) t):=by
 refine (evT_ok hT 64 t _).then ?_
 generalize hr:inn P E C (rn P E C n) 64 t=r
 have e:rn P E C (n+1) t=finT C t r:=by rw [← hr];rfl
 rw [e]
 cases r with
 | none a b=>exact .inl rfl
 | _=>exact Gj1 t k _
end
end Go.AM
