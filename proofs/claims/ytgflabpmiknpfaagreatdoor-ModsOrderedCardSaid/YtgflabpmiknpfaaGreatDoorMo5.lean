/-
  AN ABSTRACT MACHINE that runs a program over plain data, and a second one that tells what calls come to, are sound against the model (a part of it). No condition but what each theorem says.
-/
import Derived.Test.YtgflabpmiknpfaaGreatDoorMo4
namespace Go.AM
noncomputable section
open Go.RowKit
def asInt:V→Int
 | .int _ n=>n
 | _=>0
def asStr:V→List UInt8
 | .str s=>s
 | _=>[]
def asBool:V→Bool
 | .bool b=>b
 | _=>false
def asEs:V→List V
 | .osl _ es=>es
 | _=>[]
def Qk0 (sz:Nat) (es:List V) (off i:Nat):V:=((es.getD (off/sz) undef).cells).getD (off%sz+i) undef
def gI (sz:Nat) (es:List V) (off i:Nat):Int:=asInt (Qk0 sz es off i)
def gS (sz:Nat) (es:List V) (off i:Nat):List UInt8:=asStr (Qk0 sz es off i)
def gB (sz:Nat) (es:List V) (off i:Nat):Bool:=asBool (Qk0 sz es off i)
def gE (sz:Nat) (es:List V) (off i:Nat):List V:=asEs (Qk0 sz es off i)
def etaC (P:Program) (t:TypeId) (sz:Nat) (es:List V) (off i:Nat):Option V :=
 match P.underlying t with
 | some (.int k)=>some (.int k (gI sz es off i))
 | some .string=>some (.str (gS sz es off i))
 | some .bool=>some (.bool (gB sz es off i))
 | some (.slice e)=>some (.osl (size P e) (gE sz es off i))
 | _=>none
def etaL (P:Program) (sz:Nat) (es:List V) (off:Nat) (ts:List TypeId):Nat→Option (List V) :=
 List.rec (motive:=fun _=>Nat→Option (List V)) (fun _=>some []) (fun t _ ih i=>match etaC P t sz es off i with
  | some c=>(match ih (Nat.succ i) with
   | some l=>some (c::l)
   | none=>none)
  | none=>none) ts
def zY0 (P:Program) (t:TypeId) (sz:Nat) (es:List V) (off:Nat):Option V :=
 match XQ0 P 6 t with
 | some ts=>(match etaL P sz es off ts 0 with
  | some cs=>zH0 P t cs
  | none=>none)
 | none=>none
def ldX (P:Program) (t:TypeId) (sz:Nat) (es:List V) (off:Nat):Prop:=load P Heap.empty t (.gptr sz es off)=zY0 P t sz es off
def symR (C:Cf) (h:Heap) (r:Nat):Bool:=match h.get r with
 | .row _ ty _ _ cap _=>bif yp0 cap then C.srow ty else false
 | _=>false
def ZC0 (P:Program) (C:Cf) (h:Heap) (t:TypeId) (a:V) (d:So):So :=
 match a with
 | .ptr r ver off=>bif symR C h r then (match h.get r with
  | .row ver' _ sz _ _ es=>(match zY0 P t sz es off with
   | some v=>.obl v h (ver=ver'∧ldX P t sz es off)
   | none=>.no)
  | _=>.no) else d
 | _=>d
theorem qE1 (P:Program) (C:Cf) (h:Heap) (t:TypeId) (a:V) {d:So} (hd:So.ok (qf0 h (load P h t a)) d):So.ok (qf0 h (load P h t a)) (ZC0 P C h t a d):=by
 unfold ZC0
 split
 ·rename_i r ver off
  cases symR C h r with
  | false=>exact hd
  | true =>
   simp only [cond_true]
   split
   ·rename_i ver' ty sz pub cap es hg
    split
    ·rename_i v hv
     rintro ⟨rfl,hl⟩
     have e:load P h t (.ptr r ver off)=load P Heap.empty t (.gptr sz es off):=by
      unfold load
      simp only [hg]
      rw [show Nat.beq ver ver=true by simp]
      rfl
     have hl:load P Heap.empty t (.gptr sz es off)=zY0 P t sz es off:=hl
     rw [e,hl,hv];rfl
    ·trivial
   ·trivial
 ·exact hd
def QF0 (P:Program) (C:Cf) (h:Heap) (t:TypeId) (a:V):So :=
 match a with
 | .gptr sz es off=>(match zY0 P t sz es off with
  | some v=>.obl v h (ldX P t sz es off)
  | none=>.no)
 | a=>ZC0 P C h t a (ofO h (load P h t a))
def XR0 (P:Program) (t:TypeId) (sz:Nat) (es:List V) (off:Nat):Option V :=
 match load P Heap.empty t (.gptr sz es off) with
 | some v=>some (zM0 P t v)
 | none=>none
def ldC (P:Program) (t:TypeId) (sz:Nat) (es:List V) (off:Nat):Prop:=XR0 P t sz es off=zY0 P t sz es off
def QE0 (P:Program) (C:Cf) (h:Heap) (t:TypeId) (a:V):So :=
 match a with
 | .gptr sz es off=>(match zY0 P t sz es off with
  | some v=>.obl v h (ldC P t sz es off)
  | none=>.no)
 | a=>ZC0 P C h t a (ofO h (load P h t a))
def canS (P:Program) (t:TypeId) (r:So):So :=
 match r with
 | .val v h=>.val (zM0 P t v) h
 | .obl v h φ=>.obl (zM0 P t v) h φ
 | r=>r
def yL0 (C:Cf) (cn lit:Bool) (P:Program) (G:Nat→Option V) (tm:T V) (h:Heap) (o:Oper):So :=
 match o.op with
 | .load t a=>s1 G tm a (Bool.rec (QF0 P C h t) (QE0 P C h t) cn)
 | .build t _=>Bool.rec (zG0 lit P G tm h o) (bif C.cb t then canS P t (zG0 lit P G tm h o) else zG0 lit P G tm h o) cn
 | _=>zG0 lit P G tm h o
def qx0 (C:Cf) (cn lit:Bool) (P:Program) (G:Nat→Option V) (tm:T V) (h:Heap) (o:Oper):Rs:=Bool.rec (qi0 lit P G tm h o) (opC P C G tm o (qi0 lit P G tm h o)) cn
def QD0 (C:Cf) (P:Program) (G:Nat→Option V) (tm:T V) (h:Heap) (o:Oper):So :=
 match o.op with
 | .load t a=>s1 G tm a (QF0 P C h t)
 | _=>litD P G tm h o
theorem ZD1 (P:Program) (C:Cf) (h:Heap) (t:TypeId) (a:V):So.ok (qf0 h (load P h t a)) (QF0 P C h t a):=by
 cases a with
 | gptr sz es off =>
  unfold QF0
  simp only
  cases he:zY0 P t sz es off with
  | none=>trivial
  | some v =>
   intro hl
   have hl:load P h t (.gptr sz es off)=zY0 P t sz es off:=hl
   rw [hl,he];rfl
 | _=>exact qE1 P C h t _ (qZ0 h _)
theorem qG1 {P:Program} {lit:Bool} {G:Nat→Option V} {tm:T V} {h:Heap} {o:Oper} {t:TypeId} {a:Operand} (ho:o.op=.load t a):qi0 lit P G tm h o=o1 G tm h a (load P h t)∧qo0 P G tm h o=o1 G tm h a (load P h t):=by
 have hb:∀ t len ps,o.op≠.buildSlice t len ps:=fun _ _ _ e=>by rw [ho] at e;cases e
 have e0:qB0 P G tm h o=o1 G tm h a (load P h t):=by unfold qB0;rw [ho];rfl
 refine ⟨(zd0 hb).trans e0,?_⟩
 rw [← e0]
 unfold qo0
 split
 ·rename_i t len ps e;exact absurd e (hb t len ps)
 ·rfl
theorem zL1 (P:Program) (C:Cf) (G:Nat→Option V) (tm:T V) (h:Heap) (t:TypeId) (a:Operand):So.ok (o1 G tm h a (load P h t)) (s1 G tm a (QF0 P C h t)):=by
 rw [Jb0]
 unfold s1
 cases AM.ev G tm a with
 | none=>trivial
 | some v=>exact ZD1 P C h t v
theorem YC1 {P:Program} {C:Cf} (cn lit:Bool) (G:Nat→Option V) (tm:T V) (h:Heap) (o:Oper):So.ok (qx0 C cn lit P G tm h o) (yL0 C cn lit P G tm h o):=by
 by_cases hb:∃ t a,o.op=.load t a
 ·obtain ⟨t,a,ho⟩:=hb
  have e1:yL0 C cn lit P G tm h o=s1 G tm a (Bool.rec (QF0 P C h t) (QE0 P C h t) cn):=by unfold yL0;rw [ho]
  have e2:opC P C G tm o (qi0 lit P G tm h o)=bif isGp (AM.ev G tm a) then (match qi0 lit P G tm h o with
   | .val v h=>.val (zM0 P t v) h
   | r=>r) else qi0 lit P G tm h o:=by unfold opC;rw [ho];rfl
  unfold qx0
  rw [e1,e2,(qG1 ho).1]
  cases cn with
  | false=>exact zL1 P C G tm h t a
  | true =>
   rw [Jb0]
   unfold s1
   cases AM.ev G tm a with
   | none=>trivial
   | some v =>
    change So.ok (bif isGp (some v) then (match qf0 h (load P h t v) with
     | .val v h=>.val (zM0 P t v) h
     | r=>r) else qf0 h (load P h t v)) (QE0 P C h t v)
    cases hg:isGp (some v) with
    | false =>
     have e:QE0 P C h t v=ZC0 P C h t v (ofO h (load P h t v)):=by
      unfold QE0
      split
      ·cases hg
      ·rfl
     rw [e];exact qE1 P C h t v (qZ0 h _)
    | true =>
     obtain ⟨sz,es,off,rfl⟩:∃ sz es off,v=.gptr sz es off:=by
      cases v <;> first | exact ⟨_,_,_,rfl⟩ | cases hg
     simp only [cond_true]
     unfold QE0
     simp only
     cases he:zY0 P t sz es off with
     | none=>trivial
     | some v =>
      intro hl
      change XR0 P t sz es off=zY0 P t sz es off at hl
      rw [he] at hl
      unfold XR0 at hl
      have e:load P Heap.empty t (.gptr sz es off)=load P h t (.gptr sz es off):=rfl
      rw [e] at hl
      cases hv:load P h t (.gptr sz es off) with
      | none=>rw [hv] at hl;cases hl
      | some x=>rw [hv] at hl;simp only [Option.some.injEq] at hl;rw [← hl];rfl
 ·have h0:=zj1 (P:=P) lit G tm h o
  by_cases hb2:∃ t ps,o.op=.build t ps
  ·obtain ⟨t,ps,ho⟩:=hb2
   have e1:yL0 C cn lit P G tm h o=Bool.rec (zG0 lit P G tm h o) (bif C.cb t then canS P t (zG0 lit P G tm h o) else zG0 lit P G tm h o) cn:=by unfold yL0;rw [ho]
   have e2:opC P C G tm o (qi0 lit P G tm h o)=bif C.cb t then (match qi0 lit P G tm h o with
    | .val v h=>.val (zM0 P t v) h
    | r=>r) else qi0 lit P G tm h o:=by unfold opC;rw [ho];rfl
   unfold qx0
   rw [e1,e2]
   cases cn with
   | false=>exact h0
   | true =>
    cases C.cb t with
    | false=>exact h0
    | true =>
     simp only [cond_true]
     generalize zG0 lit P G tm h o=q at h0
     cases q with
     | val v h1=>rw [show qi0 lit P G tm h o=.val v h1 from h0];rfl
     | obl v h1 φ=>intro hφ;rw [show qi0 lit P G tm h o=.val v h1 from h0 hφ]
     | skip h1=>rw [show qi0 lit P G tm h o=.skip h1 from h0];rfl
     | no=>trivial
  ·have e1:yL0 C cn lit P G tm h o=zG0 lit P G tm h o:=by
    unfold yL0
    split
    ·rename_i t a e;exact absurd ⟨t,a,e⟩ hb
    ·rename_i t a e;exact absurd ⟨t,a,e⟩ hb2
    ·rfl
   have e2:opC P C G tm o (qi0 lit P G tm h o)=qi0 lit P G tm h o:=by
    unfold opC
    split
    ·rename_i t a e;exact absurd ⟨t,a,e⟩ hb
    ·rename_i t a e;exact absurd ⟨t,a,e⟩ hb2
    ·rfl
   unfold qx0
   rw [e1,e2]
   cases cn <;> exact h0
theorem qD1 {P:Program} {C:Cf} (G:Nat→Option V) (tm:T V) (h:Heap) (o:Oper):So.ok (qo0 P G tm h o) (QD0 C P G tm h o):=by
 unfold QD0
 split
 ·rename_i t a ho
  rw [(qG1 (lit:=false) ho).2];exact zL1 P C G tm h t a
 ·exact ZA1 (P:=P) G tm h o
def eqB (x y:V):Option Bool :=
 match x with
 | .str a=>(match y with
  | .str b=>some (decide (a=b))
  | _=>none)
 | x=>eqS x y
theorem eqB_eq (x y:V):eqB x y=eqS x y:=by
 cases x with
 | str a =>
  cases y with
  | str b =>
   change some (decide (a=b))=some (zi0 a b)
   rw [Qd0,JS0]
  | _=>rfl
 | _=>rfl
def YA0 {β:Type} (k:V) (l:List (V×V)) (kk:Option (Option V)→β):β :=
 List.rec (kk (some none)) (fun p _ ih=>match eqB k p.1 with
  | some b=>Bool.rec ih (kk (some (some p.2))) b
  | none=>kk none) l
theorem GQ0 {β:Type} (k:V) (l:List (V×V)) (kk:Option (Option V)→β):YA0 k l kk=kk (findKey k l):=by
 induction l with
 | nil=>rfl
 | cons p l IH =>
  change (match eqB k p.1 with
   | some b=>Bool.rec (YA0 k l kk) (kk (some (some p.2))) b
   | none=>kk none)=kk (findKey k (p::l))
  rw [GR0,eqB_eq]
  cases eqS k p.1 with
  | none=>rfl
  | some b=>cases b <;> first | exact IH | rfl
def YS0 {β:Type} (P:Program) (t:TypeId) (ok:Bool) (h:Heap) (m k:V) (kk:Option V→β):β :=
 match QI0 P t with
 | none=>kk none
 | some (kt,e)=>bif qN0 P kt k then (match m with
  | .nilm=>kk (je0 P ok e (some none))
  | .map r=>(match h.get r with
   | .map es=>YA0 k es (fun x=>kk (je0 P ok e x))
   | _=>kk none)
  | .gmap ks vs=>YA0 k (jB0 ks vs) (fun x=>kk (je0 P ok e x))
  | _=>kk none) else kk none
theorem qJ1 {β:Type} (P:Program) (t:TypeId) (ok:Bool) (h:Heap) (m k:V) (kk:Option V→β):YS0 P t ok h m k kk=kk (lookup P h t ok m k):=by
 unfold YS0 lookup
 cases QI0 P t with
 | none=>rfl
 | some p =>
  obtain ⟨kt,e⟩:=p
  simp only
  cases qN0 P kt k with
  | false=>rfl
  | true =>
   simp only [cond_true]
   cases m with
   | map r =>
    simp only
    cases h.get r with
    | map es=>exact GQ0 k es _
    | _=>rfl
   | gmap ks vs=>exact GQ0 k (jB0 ks vs) _
   | _=>rfl
inductive PR (α ε:Type) where
 | no
 | ok (a:α)
 | er (e:ε)
structure Ent where
 α:Type
 ε:Type
 x:PR α ε
 s:α→Bool
 t:α→Bool
 R:Bool→Bool→α→Res
 Q:ε→Res
def ent {α ε:Type} (x:PR α ε) (R:α→Res) (Q:ε→Res):Ent:=⟨α,ε,x,fun _=>true,fun _=>true,fun _ _=>R,Q⟩
def Ent.res (e:Ent):Res :=
 match e.x with
 | .no=>.none 0 none
 | .ok a=>e.R (e.s a) (e.t a) a
 | .er n=>e.Q n
def Ze0 (ih0:Task→Res) (Tb:Task→Option Ent):Prop:=∀ t e,Tb t=some e→e.x=.no∨e.res=ih0 t
def putDf (e:V) (j:Nat) (cs:List V):V :=
 match jw0 e j cs with
 | some e'=>e'
 | none=>e
def qR0 (sz:Nat) (es:List V) (off:Nat) (v:V):List V:=List.setN (putDf (es.getD (off/sz) undef) (off%sz) v.cells) es (off/sz)
def stX (P:Program) (t:TypeId) (v:V) (pub sz:Nat) (es:List V) (off:Nat):Prop:=v.flat=true∧v.cells.length=size P t∧pub≤off/sz∧1≤size P t∧off/sz<es.length∧jw0 (es.getD (off/sz) undef) (off%sz) v.cells≠none
def isShr:BinOp→Bool
 | .shr=>true
 | _=>false
theorem XA1 {P:Program} {h:Heap} {t:TypeId} {r ver ver' ty sz pub off:Nat} {cap:Option Nat} {es:List V} {v:V} (hg:h.get r=.row ver' ty sz pub cap es) (hv:ver=ver') (hs:stX P t v pub sz es off):store P h t (.ptr r ver off) v=some (h.set r (.row ver ty sz pub cap (qR0 sz es off v))):=by
 subst hv
 obtain ⟨h1,h2,h3,h4,h5,h6⟩:=hs
 have hat:List.at es (Nat.div off sz)=some (es.getD (off/sz) undef):=by
  rw [List.at_eq]
  change es[off/sz]?=_
  rw [List.getElem?_eq_getElem h5,List.getD_eq_getElem?_getD,List.getElem?_eq_getElem h5]
  rfl
 unfold store
 simp only [hg]
 have e0:(Nat.beq ver ver&&v.flat&&Nat.beq (List.len v.cells) (size P t)&&Nat.ble pub (Nat.div off sz)&&Nat.ble 1 (size P t))=true:=by
  simp only [Bool.and_eq_true,Nat.beq_eq,Nat.ble_eq,List.len_eq]
  exact ⟨⟨⟨⟨trivial,h1⟩,h2⟩,h3⟩,h4⟩
 rw [e0]
 simp only [cond_true,hat]
 unfold qR0 putDf
 change (match jw0 (es.getD (off/sz) undef) (off%sz) v.cells with
  | some e'=>some (h.set r (.row ver ty sz pub cap (List.setN e' es (off/sz))))
  | none=>none)=_
 cases hp:jw0 (es.getD (off/sz) undef) (off%sz) v.cells with
 | none=>exact absurd hp h6
 | some e'=>rfl
section defs
variable (P:Program) (E:Env) (C:Cf) (Tb:Task→Option Ent) (ih0:Task→Res) {β:Type} (bot:β)
def Ent.run (e:Ent) (k:Res→β):β:=PR.rec (motive:=fun _=>β) bot (fun a=>Bool.rec (Bool.rec (k (e.R false false a)) (k (e.R false true a)) (e.t a)) (Bool.rec (k (e.R true false a)) (k (e.R true true a)) (e.t a)) (e.s a)) (fun n=>k (e.Q n)) e.x
def oK (t:Task) (k:Res→β):β :=
 match Tb t with
 | some e=>e.run bot k
 | none=>k (ih0 t)
variable (rec:Task→(Res→β)→β)
def XB0 (f:FuncId) (args:List V) (h:Heap) (k:Res→β):β :=
 needs bot (Qw0 C h (qM0 C h 60 (qm0 (qn0 8) args) [])) (match qb0 (rnV (qg0 (qM0 C h 60 (qm0 (qn0 8) args) [])) 8) args with
 | none=>rec (.call f args h) k
 | some as=>match qb0 (fun r=>rnH C h (qg0 (qM0 C h 60 (qm0 (qn0 8) args) [])) r) (qM0 C h 60 (qm0 (qn0 8) args) []) with
  | none=>rec (.call f args h) k
  | some os=>bif okR h.n (qM0 C h 60 (qm0 (qn0 8) args) []) then oK Tb ih0 bot (.call f as (hp os)) (fun r=>outK C bot h (qM0 C h 60 (qm0 (qn0 8) args) []) k r) else rec (.call f args h) k)
def qF0 (t:Task) (k:Res→β):β :=
 match t with
 | .call f args h=>bif C.inl f then rec (.call f args h) k else XB0 C Tb ih0 bot rec f (C.na f args) h k
 | .code c fr h=>(match c with
  | .loop b=>bif C.unr fr.fn b h.n then rec (.code (.loop b) (wkF (C.live fr.fn b) fr) h) k else oK Tb ih0 bot (.code (.loop b) (wkF (C.live fr.fn b) fr) (jh0 h)) k
  | c=>rec (.code c fr h) k)
 | t=>rec t k
def JG0 (f:V→(V→β)→β) (l:List V):(List V→β)→β :=
 List.rec (motive:=fun _=>(List V→β)→β) (fun kk=>kk []) (fun v _ ih kk=>f v (fun v'=>ih (fun l'=>kk (v'::l')))) l
def KG0 (d:Nat):V→(V→β)→β :=
 Nat.rec (motive:=fun _=>V→(V→β)→β) (fun v kk=>kk v) (fun _ ih v kk=>match v with
  | .bool b=>Bool.rec (kk (.bool false)) (kk (.bool true)) b
  | .agg vs=>JG0 ih vs (fun l=>kk (.agg l))
  | .tup vs=>JG0 ih vs (fun l=>kk (.tup l))
  | v=>kk v) d
def goK (o:Oper) (fr:Fr) (next:Fr→Heap→β) (v:V) (h:Heap) (k:Res→β):β :=
 KG0 6 v (fun v=>match fr.put o.dst v with
 | none=>k (.none fr.fn (some o))
 | some fr'=>next fr' h)
def Ye0 (o:Oper) (fr:Fr) (next:Fr→Heap→β) (k:Res→β) (r:Res):β :=
 match r with
 | .ret v h=>goK o fr next v h k
 | .panic v h=>k (.code (.panic v) fr h)
 | .none a b=>k (.none a b)
 | _=>k (.none fr.fn (some o))
def JY0 (f:FuncId) (args:List V) (h:Heap) (k:Res→β):β :=
 Jk0 C bot depth args h (fun x=>match x with
 | .none=>k (.none f .none)
 | some (gs,h1) =>
  match E.prim f gs with
  | some v=>k (jM0 E f (Bool.rec h1 h (E.borrow f)) v)
  | .none=>qF0 C Tb ih0 bot rec (.call f gs Heap.empty) (fun r=>k (jK0 (jM0 E f) (E.borrow f) (Bool.rec h1 h (E.borrow f)) f r)))
def Xa0 (f:FuncId) (args:List V) (h:Heap) (k:Res→β):β :=
 bif qu0 (ground 3) args then
  (match E.prim f args with
  | some v=>k (ZY0 h v)
  | .none=>qF0 C Tb ih0 bot rec (.call f args Heap.empty) (fun r=>k (jK0 ZY0 false h f r)))
 else k (.none f .none)
def jj1 (f:FuncId) (args:List V) (h:Heap) (k:Res→β):β :=
 qF0 C Tb ih0 bot rec (.call f args h) (fun r=>k (Bool.rec r (ju0 f r) (E.pubRet f)))
def Yo0 (lit:Bool) (f:FuncId) (args:List V) (h:Heap) (k:Res→β):β :=
 Bool.rec (Bool.rec (JY0 E C Tb ih0 bot rec f args h k) (Xa0 E C Tb ih0 bot rec f args h k) lit) (jj1 E C Tb ih0 bot rec f args h k) (E.shared f)
def rsK (o:Oper) (fr:Fr) (next:Fr→Heap→β) (k:Res→β) (r:Rs):β :=
 match r with
 | .val v h=>goK o fr next v h k
 | .skip h=>goK o fr next undef h k
 | .call f args h=>Yo0 E C Tb ih0 bot rec false f args h (fun r=>Ye0 o fr next k r)
 | .yield l args h=>qF0 C Tb ih0 bot rec (.yield l args h) (fun r=>Ye0 o fr next k r)
 | .panic v h=>k (.code (.panic v) fr h)
 | .defer f args h=>(match fr.round with
  | some _=>k (.none fr.fn (some o))
  | .none=>match fr.marks with
   | []=>goK o { fr with defers:=(f,args)::fr.defers } next undef h k
   | _=>k (.none fr.fn (some o)))
 | .recover _=>k (.none fr.fn (some o))
 | .stuck=>k (.none fr.fn (some o))
def opK' (cn:Bool) (o:Oper) (fr:Fr) (next:Fr→Heap→β) (h:Heap) (k:Res→β):β :=
 match yL0 C cn (E.lit fr.fn) P E.glob fr.tm h o with
 | .val v h1=>goK o fr next v h1 k
 | .obl v h1 φ=>need bot φ (goK o fr next v h1 k)
 | .skip h1=>goK o fr next undef h1 k
 | .no=>rsK E C Tb ih0 bot rec o fr next k (qx0 C cn (E.lit fr.fn) P E.glob fr.tm h o)
def KH0 (o:Oper) (fr:Fr) (next:Fr→Heap→β) (h:Heap) (k:Res→β) (d:β):β :=
 match o.op with
 | .store t a x=>(match ev E.glob fr.tm a with
  | some (.ptr r ver off)=>bif symR C h r then (match ev E.glob fr.tm x with
   | some v=>(match h.get r with
    | .row ver' ty sz pub cap es=>need bot (ver=ver') (need bot (stX P t v pub sz es off) (goK o fr next undef (h.set r (.row ver ty sz pub cap (qR0 sz es off v))) k))
    | _=>d)
   | none=>d) else d
  | _=>d)
 | _=>d
def KE0 (o:Oper) (fr:Fr) (next:Fr→Heap→β) (h:Heap) (k:Res→β) (d:β):β :=
 match o.op with
 | .binOp op t x y _=>bif C.shf fr.fn&&isShr op then (match ev E.glob fr.tm x with
  | some (.int kk a)=>(match ev E.glob fr.tm y with
   | some (.int kb b)=>need bot (qz0 .shr kk a b=some (.int kk (a/2^b.toNat))) (goK o fr next (.int kk (a/2^b.toNat)) h k)
   | _=>d)
  | _=>d) else d
 | _=>d
def recvA:V→Bool
 | .nils=>true
 | .sl _ _ _ _ _=>true
 | .gsl _ _ _=>true
 | _=>false
def appK (o:Oper) (fr:Fr) (next:Fr→Heap→β) (h:Heap) (k:Res→β) (d:β):β :=
 match o.op with
 | .call c=>(match c.callee with
  | .builtin b=>(match b with
   | .append=>(match qb0 (ev E.glob fr.tm) c.args.toList with
    | some [x,y]=>(match c.argTypes.toList with
     | [t,u]=>(match y with
      | .osl sz es=>(match qj0 P t with
       | some e=>bif C.apf fr.fn&&zD0 P u&&recvA x&&Nat.beq sz (size P e)&&!(Nat.beq (size P e) 0) then Bool.rec d (goK o fr next x h k) (ql0 es) else d
       | none=>d)
      | _=>d)
     | _=>d)
    | _=>d)
   | _=>d)
  | _=>d)
 | _=>d
def orN (a b:Int):Int:=((a.toNat ||| b.toNat:Nat):Int)
def isOr:BinOp→Bool
 | .or=>true
 | _=>false
def orK (o:Oper) (fr:Fr) (next:Fr→Heap→β) (h:Heap) (k:Res→β) (d:β):β :=
 match o.op with
 | .binOp op t x y _=>bif C.nxt fr.fn&&isOr op then (match ev E.glob fr.tm x with
  | some (.int kk a)=>(match ev E.glob fr.tm y with
   | some (.int kb b)=>need bot (kk=kb∧qz0 .or kk a b=some (.int kk (orN a b))) (goK o fr next (.int kk (orN a b)) h k)
   | _=>d)
  | _=>d) else d
 | _=>d
def Kd0 (o:Oper) (fr:Fr) (next:Fr→Heap→β) (h:Heap) (k:Res→β) (d:β):β :=
 match o.op with
 | .next it isString=>bif C.nxt fr.fn&&isString then (match ev E.glob fr.tm it with
  | some (.iter r)=>(match h.get r with
   | .siter s pos=>bif decide (pos<s.length) then goK o fr next (.tup [.bool true,.int .i64 (pos:Int),.int .i32 (runeAt s pos:Int)]) (h.set r (.siter s (pos+lenAt s pos))) k else goK o fr next (.tup [.bool false]) h k
   | _=>d)
  | _=>d) else d
 | _=>d
def opK (cn:Bool) (o:Oper) (fr:Fr) (next:Fr→Heap→β) (h:Heap) (k:Res→β):β :=
 match o.op with
 | .lookup t m key ok=>(match ev E.glob fr.tm m with
  | some mv=>(match ev E.glob fr.tm key with
   | some kv=>YS0 P t ok h mv kv (fun x=>match x with
    | some v=>goK o fr next v h k
    | none=>k (.none fr.fn (some o)))
   | none=>k (.none fr.fn (some o)))
  | none=>k (.none fr.fn (some o)))
 | _=>KE0 E C bot o fr next h k (KH0 P E C bot o fr next h k (appK P E C o fr next h k (orK E C bot o fr next h k (Kd0 E C o fr next h k (opK' P E C Tb ih0 bot rec cn o fr next h k)))))
def preK (o:Oper) (fr:Fr) (h:Heap) (kk:Fr→Heap→β):β :=
 match o.op with
 | .store t _ v=>(match v with
  | .tmp i=>(match C.ps fr.fn t with
   | some b=>bif Nat.blt i fr.n then (match yq0 (fr.at' i) with
    | some v=>Bool.rec (kk (fr.st i (C.nz fr.fn t v)) h) (pubK C bot 38 h v (fun r=>match r with
     | some p=>kk (fr.st i (C.nz fr.fn t p.1)) p.2
     | none=>kk fr h)) b
    | none=>kk fr h) else kk fr h
   | none=>kk fr h)
  | _=>kk fr h)
 | _=>kk fr h
def js0 (cn:Bool) (all l:List Oper):Fr→Heap→(Res→β)→β :=
 List.rec (motive:=fun _=>Fr→Heap→(Res→β)→β) (fun fr h k=>k (.code .normal fr h))
  (fun o _ ih fr h k=>Bool.rec (match wanted all fr o with
   | none=>k (.none fr.fn (some o))
   | some b=>Bool.rec (goK o fr (fun fr h=>ih fr h k) undef h k) (opK P E C Tb ih0 bot rec false o fr (fun fr h=>ih fr h k) h k) b)
   (preK C bot o fr h (fun fr h=>match wanted all fr o with
   | none=>k (.none fr.fn (some o))
   | some b=>Bool.rec (goK o fr (fun fr h=>ih fr h k) undef h k) (opK P E C Tb ih0 bot rec true o fr (fun fr h=>ih fr h k) h k) b)) cn) l
def Xi0 (tm:T V) (h:Heap) (o:Oper) (k:Outc→β):β :=
 match QD0 C P E.glob tm h o with
 | .val v h1=>k (.val v h1)
 | .obl v h1 φ=>need bot φ (k (.val v h1))
 | .skip h1=>k (.val undef h1)
 | .no=>match qo0 P E.glob tm h o with
  | .val v h'=>k (.val v h')
  | .skip h'=>k (.val undef h')
  | .call f args h'=>Yo0 E C Tb ih0 bot rec true f args h' (fun r=>k (orOf r))
  | .yield l args h'=>qF0 C Tb ih0 bot rec (.yield l args h') (fun r=>k (orOf r))
  | .panic v h'=>k (.panic v h')
  | _=>k .stuck
def Xh0 (tm:T V) (h:Heap) (o:Oper) (k:Outc→β):β :=
 match o.op with
 | .lookup t m key ok=>(match ev E.glob tm m with
  | some mv=>(match ev E.glob tm key with
   | some kv=>YS0 P t ok h mv kv (fun x=>match x with
    | some v=>k (.val v h)
    | none=>k .stuck)
   | none=>k .stuck)
  | none=>k .stuck)
 | _=>Xi0 P E C Tb ih0 bot rec tm h o k
def Qp0 (o:Oper) (v:V) (fr:Fr) (next:Fr→β) (kk:DR→β):β :=
 KG0 6 v (fun v=>match fr.put o.dst v with
 | none=>kk (.stuck (some o))
 | some fr'=>next fr')
def Yu0 (d:DOp) (next:Fr→Heap→Nat→List Hp→List Rc→Option Pn→List Nat→β) (fr:Fr) (h:Heap) (pb:Nat) (hs:List Hp) (rs:List Rc) (pan:Option Pn) (ix:List Nat) (kk:DR→List Nat→β) (r:Outc):β :=
 match r with
 | .val v h'=>bif d.w then (bif qX0 pan then Qp0 d.o v fr (fun fr'=>next fr' h' d.b (⟨pb,h,some d.i⟩::hs) rs pan ix) (fun r=>kk r ix) else kk (.stuck (some d.o)) ix)
  else Qp0 d.o v fr (fun fr'=>next fr' h pb hs (bif zu0 E d.o.op then rs else ⟨d.o,d.i,d.b,fr.tm,v⟩::rs) pan (bif zu0 E d.o.op then ix else List.len hs::ix)) (fun r=>kk r ix)
 | .panic v h'=>bif d.w&&qX0 pan then next fr h pb (⟨pb,h,some d.i⟩::hs) rs (some ⟨d.i,v,h'⟩) ix else kk (.stuck (some d.o)) ix
 | .stuck=>kk (.stuck (some d.o)) ix
def Xf0 (all:List Oper) (d:DOp) (next:Fr→Heap→Nat→List Hp→List Rc→Option Pn→List Nat→β) (fr:Fr) (h:Heap) (pb:Nat) (hs:List Hp) (rs:List Rc) (pan:Option Pn) (ix:List Nat) (kk:DR→List Nat→β):β :=
 bif ZJ0 pan d.b then next fr h pb hs rs pan ix
 else match wanted all fr d.o with
  | .none=>kk (.stuck (some d.o)) ix
  | some t=>Bool.rec (bif d.w then (bif qX0 pan then Qp0 d.o undef fr (fun fr'=>next fr' h d.b (⟨pb,h,some d.i⟩::hs) rs pan ix) (fun r=>kk r ix) else kk (.stuck (some d.o)) ix)
   else Qp0 d.o undef fr (fun fr'=>next fr' h pb hs rs pan ix) (fun r=>kk r ix))
   (Xh0 P E C Tb ih0 bot rec fr.tm h d.o (fun r=>Yu0 E d next fr h pb hs rs pan ix kk r)) t
def Zq0 (all:List Oper) (l:List DOp):Fr→Heap→Nat→List Hp→List Rc→Option Pn→List Nat→(DR→List Nat→β)→β :=
 List.rec (motive:=fun _=>Fr→Heap→Nat→List Hp→List Rc→Option Pn→List Nat→(DR→List Nat→β)→β) (fun fr h pb hs rs pan ix kk=>kk (.done fr h (bif qX0 pan then ⟨pb,h,none⟩::hs else hs) rs pan) ix)
  (fun d _ ih fr h pb hs rs pan ix kk=>Xf0 P E C Tb ih0 bot rec all d (fun fr h pb hs rs pan ix=>ih fr h pb hs rs pan ix kk) fr h pb hs rs pan ix kk) l
def Gw0 (r:Rc) (e:Hp) (x:β):β :=
 match QD0 C P E.glob r.tm e.h r.o with
  | .val v _=>need bot (r.v=v) x
  | .obl v _ φ=>need bot φ (need bot (r.v=v) x)
  | .skip _=>need bot (r.v=undef) x
  | .no=>bot
def Gv0 (r:Rc) (e:Hp) (x:β):β :=
 match r.o.op with
 | .lookup t m key ok=>(match ev E.glob r.tm m with
  | some mv=>(match ev E.glob r.tm key with
   | some kv=>need bot (lookup P e.h t ok mv kv=some r.v) x
   | none=>bot)
  | none=>bot)
 | _=>Gw0 P E C bot r e x
def Qo0 (r:Rc) (e:Hp) (x:β):β :=
 bif tb e.pb r.i then x
 else bif yI0 r.b e.nx then x
 else Gv0 P E C bot r e x
def zW0 (r:Rc) (j:Option Nat) (hps:List Hp) (x:β):β:=List.rec x (fun e l ih=>bif yb0 j (some (List.len l)) then ih else Qo0 P E C bot r e ih) hps
def Qn0 (hps:List Hp) (rcs:List Rc) (x:β):List Nat→β:=List.rec (motive:=fun _=>List Nat→β) (fun _=>x) (fun r _ ih ix=>match ix with
 | []=>zW0 P E C bot r none hps (ih [])
 | j::ix=>zW0 P E C bot r (some j) hps (ih ix)) rcs
def Yw0 (l:List DOp) (fn:FuncId) (k:Res→β) (r:DR) (ix:List Nat):β :=
 match r with
 | .stuck o=>k (.none fn o)
 | .done fr h hps rcs pan=>bif yH0 l then (match pan with
  | none=>k (.code .normal fr h)
  | some p=>k (.code (.panic p.v) (zk0 l fr) p.h))
  else Qn0 P E C bot hps rcs (match pan with
   | none=>k (.code .normal fr h)
   | some p=>k (.code (.panic p.v) (zk0 l fr) p.h)) ix
def Xk0 (all:List Oper) (fr:Fr) (h:Heap) (k:Res→β):β :=
 match (bif P.follows .mixedOrders then jI0 E all else none) with
 | none=>k (.none fr.fn none)
 | some l=>Zq0 P E C Tb ih0 bot rec all l fr h 0 [] [] none [] (fun r ix=>Yw0 P E C bot l fr.fn k r ix)
def seqK (b:Code) (k:Res→β) (r:Res):β :=
 match r with
 | .code e fr h=>(match e with
  | .normal=>qF0 C Tb ih0 bot rec (.code b fr h) k
  | e=>k (.code e fr h))
 | r=>k r
def seqL (b:Code) (k:Res→β) (r:Res):β :=
 match r with
 | .code e fr h=>(match e with
  | .normal=>qF0 C Tb ih0 bot rec (.code b fr h) (fun r=>QH0 C bot h.n (C.live fr.fn b) k r)
  | e=>k (.code e fr h))
 | r=>k r
def Yx0 (lid:Nat) (fr:Fr) (k:Res→β) (r:Res):β :=
 match r with
 | .ret _ h=>(match h.get lid with
  | .loop st pending fn n tm ps a b d =>
   (match st with
   | .busy=>k (.none fr.fn .none)
   | _=>match pending with
    | .none=>k (.code .normal fr (h.set lid (.loop .exhausted pending fn n tm ps a b d)))
    | some c=>qF0 C Tb ih0 bot rec (.code c fr (h.set lid (.loop .exhausted pending fn n tm ps a b d))) k)
  | _=>k (.none fr.fn .none))
 | .panic v h=>k (.code (.panic v) fr h)
 | .none a b=>k (.none a b)
 | _=>k (.none fr.fn .none)
def Kr0 (f:Operand) (params:Array Tmp) (assign body:Code) (fr:Fr) (h:Heap) (k:Res→β):β :=
 match ev E.glob fr.tm f with
 | .none=>k (.none fr.fn .none)
 | some fv=>match Qq0 fr h with
  | .none=>k (.none fr.fn .none)
  | some (d,marks,h1) =>
   match yX0 P (h1.new (.loop .ready .none fr.fn fr.n fr.tm params.toList assign body d)) fv [.func (.yield h1.n) [] []] with
   | .call g args h2=>bif E.shared g then qF0 C Tb ih0 bot rec (.call g args h2) (fun r=>Yx0 C Tb ih0 bot rec h1.n { fr with marks:=marks } k r) else k (.none fr.fn .none)
   | _=>k (.none fr.fn .none)
def codeK (c:Code) (fr:Fr) (h:Heap) (k:Res→β):β :=
 match c with
 | .skip=>k (.code .normal fr h)
 | .region _ ops draw=>bif draw then Xk0 P E C Tb ih0 bot rec ops.toList fr h k else js0 P E C Tb ih0 bot rec true ops.toList ops.toList fr h k
 | .seq a b=>qF0 C Tb ih0 bot rec (.code a fr h) (fun r=>seqK C Tb ih0 bot rec b k r)
 | .cond c a b=>(match ev E.glob fr.tm c with
  | some (.bool t)=>Bool.rec (qF0 C Tb ih0 bot rec (.code b fr h) k) (qF0 C Tb ih0 bot rec (.code a fr h) k) t
  | _=>k (.none fr.fn .none))
 | .block id b=>qF0 C Tb ih0 bot rec (.code b fr h) (fun r=>k (ZQ0 id r))
 | .loop b=>qF0 C Tb ih0 bot rec (.code b fr h) (fun r=>QH0 C bot h.n (C.live fr.fn b) (fun r=>seqL C Tb ih0 bot rec (.loop b) k r) r)
 | .rangeFunc f params assign body=>Kr0 P E C Tb ih0 bot rec f params assign body fr h k
 | .exit id=>k (.code (.exit id) fr h)
 | .scope b=>qF0 C Tb ih0 bot rec (.code b fr h) k
 | .label _=>k (.code .normal fr h)
 | .goto _=>k (.none fr.fn .none)
 | .ret=>k (.code .ret fr h)
 | .refuse _=>k (.none fr.fn .none)
def zE1 (f:FuncId) (fn:Func) (fr:Fr) (l:List (FuncId×List V)):Option V→Heap→(Res→β)→β :=
 List.rec (motive:=fun _=>Option V→Heap→(Res→β)→β) (fun p h k=>k (Yy0 P f fn fr p h))
  (fun d _ ih p h k=>qF0 C Tb ih0 bot rec (.dcall d.1 d.2 p h) (fun r=>match r with
   | .dret _ h'=>ih .none h' k
   | .none a b=>k (.none a b)
   | _=>k (.none f .none))) l
def Zs0 (f:FuncId) (fn:Func) (fr:Fr) (p:Option V) (h:Heap) (k:Res→β):β :=
 match QC0 fr.marks h with
 | .none=>k (.none f .none)
 | some h'=>zE1 P C Tb ih0 bot rec f fn fr fr.defers p h' k
def Xp0 (f:FuncId) (fn:Func) (k:Res→β) (r:Res):β :=
 match r with
 | .code e fr h=>(match e with
  | .normal=>Zs0 P C Tb ih0 bot rec f fn fr .none h k
  | .ret=>Zs0 P C Tb ih0 bot rec f fn fr .none h k
  | .panic v=>Zs0 P C Tb ih0 bot rec f fn fr (some v) h k
  | _=>k (.none f .none))
 | r=>k r
def JX0 (f:FuncId) (args:List V) (h:Heap) (k:Res→β):β :=
 match P.funcs[f]? with
 | .none=>k (.none f .none)
 | some fn=>match fn.body with
  | .none=>(match Zu0 P fn args h with
   | some (v,h')=>k (.ret v h')
   | .none=>k (.none f .none))
  | some body=>bif Nat.ble (List.len args) fn.ntmps then qF0 C Tb ih0 bot rec (.code body ⟨f,fn.ntmps,zT0 args 0 (zP0 (zC0 fn.ntmps)),[],[],.none,.none,false⟩ h) (fun r=>Xp0 P C Tb ih0 bot rec f fn k r) else k (.none f .none)
def Yk0 (l:Nat) (body:Code) (k:Res→β) (r:Res):β :=
 match r with
 | .code e fr h=>(match e with
  | .normal=>(match h.get l with
   | .loop st pend fn n tm ps a b d=>(match st with
    | .ready=>qF0 C Tb ih0 bot rec (.code body fr (h.set l (.loop .busy pend fn n tm ps a b d))) k
    | _=>k (.none l .none))
   | _=>k (.none l .none))
  | _=>k (.none l .none))
 | r=>k r
def KR0 (l:Nat) (args:List V) (h:Heap) (k:Res→β):β :=
 match h.get l with
 | .loop _ _ fn n tm ps assign body _=>(match ZX0 ps n args tm with
  | .none=>k (.none l .none)
  | some tm'=>qF0 C Tb ih0 bot rec (.code assign ⟨fn,n,tm',[],[],some l,.none,false⟩ h) (fun r=>Yk0 C Tb ih0 bot rec l body (fun r2=>k (endRound l r2)) r))
 | _=>k (.none l .none)
def Xg0 (f:FuncId) (args:List V) (p:Option V) (h:Heap) (k:Res→β):β :=
 match P.funcs[f]? with
 | .none=>k (.none f .none)
 | some fn=>match fn.body with
  | some (.seq (.region _ ops false) rest)=>(match ops.toList with
   | []=>k (.none f .none)
   | o::l=>bif jQ0 o&&ql0 fn.results.toList&&Nat.ble (List.len args) fn.ntmps then
    (match Fr.put ⟨f,fn.ntmps,zT0 args 0 (zP0 (zC0 fn.ntmps)),[],[],.none,.none,false⟩ o.dst (Jf0 p) with
     | some fr1=>js0 P E C Tb ih0 bot rec false ops.toList l fr1 h (fun r=>seqK C Tb ih0 bot rec rest (fun r2=>k (Zt0 f r2)) r)
     | .none=>k (.none f .none))
    else k (.none f .none))
  | _=>k (.none f .none)
def stepK (t:Task) (k:Res→β):β :=
 match t with
 | .code c fr h=>codeK P E C Tb ih0 bot rec c fr h k
 | .call f args h=>JX0 P C Tb ih0 bot rec f args h k
 | .yield l args h=>KR0 C Tb ih0 bot rec l args h k
 | .dcall f args p h=>Xg0 P E C Tb ih0 bot rec f args p h k
end defs
def evT (P:Program) (E:Env) (C:Cf) (Tb:Task→Option Ent) (ih0:Task→Res) {β:Type} (bot:β) (m:Nat):Task→(Res→β)→β :=
 Nat.rec (motive:=fun _=>Task→(Res→β)→β) (fun _ k=>k (.none 0 none)) (fun _ rec=>stepK P E C Tb ih0 bot rec) m
section split
variable {β:Type}
theorem zW1 {f:V→(V→β)→β} (hf:∀ v kk,f v kk=kk v) (l:List V):∀ kk,JG0 f l kk=kk l:=by
 induction l with
 | nil=>intro kk;rfl
 | cons v l IH =>
  intro kk
  change f v (fun v'=>JG0 f l (fun l'=>kk (v'::l')))=kk (v::l)
  rw [hf,IH]
theorem zX1 (d:Nat):∀ (v:V) (kk:V→β),KG0 d v kk=kk v:=by
 induction d with
 | zero=>intro v kk;rfl
 | succ d IH =>
  intro v kk
  cases v with
  | bool b=>cases b <;> rfl
  | agg vs=>exact zW1 IH vs _
  | tup vs=>exact zW1 IH vs _
  | _=>rfl
end split
section ok
variable {P:Program} {E:Env} {C:Cf} {Tb:Task→Option Ent} {ih0:Task→Res} {β:Type} {bot:β} {rec:Task→(Res→β)→β} {ih:Task→Res}
theorem oK_ok (hT:Ze0 ih0 Tb) (t:Task) (k:Res→β):Nr bot k (oK Tb ih0 bot t k) (ih0 t):=by
 unfold oK
 split
 ·rename_i e he
  have hx:=hT t e he
  obtain ⟨α,ε,x,s,t',R,Q⟩:=e
  unfold Ent.run
  unfold Ent.res at hx
  cases x with
  | no=>exact .inl rfl
  | ok a =>
   rcases hx with h | h
   ·cases h
   ·refine .inr ?_
    simp only at h
    rw [← h]
    simp only
    cases s a <;> cases t' a <;> rfl
  | er n=>rcases hx with h | h;cases h;exact .inr (by simp only at h;rw [← h])
 ·exact .self
variable (hT:Ze0 ih0 Tb) (hr:∀ t k,Nr bot k (rec t k) (ih t))
 include hT hr
theorem QE1 (f:FuncId) (args:List V) (h:Heap) (k:Res→β):Nr bot k (XB0 C Tb ih0 bot rec f args h k) (Zw0 ih0 ih f args h):=by
 unfold XB0
 refine .needs fun q=>?_
 have hh:=Xz0 _ q
 have e:=zz1 _ _ _ hh
 rw [e] at hh ⊢
 rw [qQ1 (f:=fun r=>rnH C h (qg0 (qQ0 h 60 (qm0 (qn0 8) args) [])) r) (g:=fun r=>rnO (qg0 (qQ0 h 60 (qm0 (qn0 8) args) [])) (h.get r)) fun r hr=>zC1 (hh r hr)]
 unfold Zw0
 generalize qQ0 h 60 (qm0 (qn0 8) args) []=ρ
 generalize qb0 (rnV (qg0 ρ) 8) args=o1
 generalize qb0 (fun r=>rnO (qg0 ρ) (h.get r)) ρ=o2
 generalize okR h.n ρ=o3
 cases o1 with
 | none=>exact hr _ _
 | some as =>
  cases o2 with
  | none=>exact hr _ _
  | some os =>
   cases o3 with
   | false=>exact hr _ _
   | true=>exact (oK_ok hT _ _).then (YG1 h ρ k _)
theorem zc0 (t:Task) (k:Res→β):Nr bot k (qF0 C Tb ih0 bot rec t k) (qh0 C ih0 ih t):=by
 cases t with
 | call f args h =>
  unfold qF0 qh0
  simp only
  cases C.inl f with
  | true=>exact hr _ _
  | false=>exact QE1 hT hr f (C.na f args) h k
 | code c fr h =>
  have key:∀ b,Nr bot k (bif C.unr fr.fn b h.n then rec (.code (.loop b) (wkF (C.live fr.fn b) fr) h) k else oK Tb ih0 bot (.code (.loop b) (wkF (C.live fr.fn b) fr) (jh0 h)) k) (bif C.unr fr.fn b h.n then ih (.code (.loop b) (wkF (C.live fr.fn b) fr) h) else ih0 (.code (.loop b) (wkF (C.live fr.fn b) fr) (jh0 h))):=fun b=>by
   cases C.unr fr.fn b h.n with
   | true=>exact hr _ _
   | false=>exact oK_ok hT _ _
  cases c <;> first | exact hr _ _ | exact key _
 | _=>exact hr _ _
 omit hT hr in theorem goK_ok {o:Oper} {fr:Fr} {next:Fr→Heap→β} {nextR:Fr→Heap→Res} {v:V} {h:Heap} {k:Res→β} (hn:∀ fr h,Nr bot k (next fr h) (nextR fr h)):Nr bot k (goK o fr next v h k) (zQ0 o fr nextR v h):=by
  unfold goK zQ0
  rw [zX1]
  cases fr.put o.dst v with
  | none=>exact .self
  | some fr'=>exact hn fr' h
 omit hT hr in theorem afterK_ok {o:Oper} {fr:Fr} {next:Fr→Heap→β} {nextR:Fr→Heap→Res} {k:Res→β} (hn:∀ fr h,Nr bot k (next fr h) (nextR fr h)) (r:Res):Nr bot k (Ye0 o fr next k r) (Zg0 o fr nextR (fun v h=>.code (.panic v) fr h) r):=by
  cases r with
  | ret v h=>exact goK_ok hn
  | _=>exact .self
theorem jh1 (f:FuncId) (args:List V) (h:Heap) (k:Res→β):Nr bot k (JY0 E C Tb ih0 bot rec f args h k) (Zo0 E (qh0 C ih0 ih) f args h):=by
 unfold JY0 Zo0
 refine (zv1 (C:=C) (bot:=bot) (d:=depth) (by decide) args h _).then ?_
 generalize qr0 (pub [] depth) args h=o1
 cases o1 with
 | none=>exact .self
 | some p =>
  obtain ⟨gs,h1⟩:=p
  simp only
  generalize E.prim f gs=o2
  cases o2 with
  | some v=>exact .self
  | none=>exact (zc0 hT hr _ _).then .self
theorem jk1 (f:FuncId) (args:List V) (h:Heap) (k:Res→β):Nr bot k (Xa0 E C Tb ih0 bot rec f args h k) (zL0 E (qh0 C ih0 ih) f args h):=by
 unfold Xa0 zL0
 cases qu0 (ground 3) args with
 | false=>exact .self
 | true =>
  simp only [cond_true]
  generalize E.prim f args=o2
  cases o2 with
  | some v=>exact .self
  | none=>exact (zc0 hT hr _ _).then .self
theorem Gn0 (lit:Bool) (f:FuncId) (args:List V) (h:Heap) (k:Res→β):Nr bot k (Yo0 E C Tb ih0 bot rec lit f args h k) (zz0 E (qh0 C ih0 ih) lit f args h):=by
 unfold Yo0 zz0
 cases E.shared f with
 | true=>exact (zc0 hT hr _ _).then .self
 | false =>
  cases lit with
  | true=>exact jk1 hT hr f args h k
  | false=>exact jh1 hT hr f args h k
theorem rsK_ok {o:Oper} {fr:Fr} {next:Fr→Heap→β} {nextR:Fr→Heap→Res} {k:Res→β} (hn:∀ fr h,Nr bot k (next fr h) (nextR fr h)) (r:Rs):Nr bot k (rsK E C Tb ih0 bot rec o fr next k r) (ze0 E (qh0 C ih0 ih) false o fr nextR (fun v h=>.code (.panic v) fr h) r):=by
 cases r with
 | val v h=>exact goK_ok hn
 | skip h=>exact goK_ok hn
 | call f args h=>exact (Gn0 hT hr false f args h _).then (afterK_ok hn _)
 | yield l args h=>exact (zc0 (C:=C) hT hr (.yield l args h) (fun r=>Ye0 o fr next k r)).then (afterK_ok hn _)
 | panic v h=>exact .self
 | defer f args h =>
  change Nr bot k (match fr.round with
   | some _=>k (.none fr.fn (some o))
   | .none=>match fr.marks with
    | []=>goK o { fr with defers:=(f,args)::fr.defers } next undef h k
    | _=>k (.none fr.fn (some o))) (jH0 o fr nextR f args h)
  unfold jH0
  generalize fr.round=o1
  cases o1 with
  | some _=>exact .self
  | none =>
   simp only
   cases hm:fr.marks with
   | nil=>exact goK_ok hn
   | cons a b=>exact .self
 | recover h=>exact .self
 | stuck=>exact .self
theorem Yy1 {cn:Bool} {o:Oper} {fr:Fr} {next:Fr→Heap→β} {nextR:Fr→Heap→Res} {h:Heap} {k:Res→β} (hn:∀ fr h,Nr bot k (next fr h) (nextR fr h)):Nr bot k (opK' P E C Tb ih0 bot rec cn o fr next h k) (ze0 E (qh0 C ih0 ih) false o fr nextR (fun v h=>.code (.panic v) fr h) (qx0 C cn (E.lit fr.fn) P E.glob fr.tm h o)):=by
 unfold opK'
 have hok:=YC1 (P:=P) (C:=C) cn (E.lit fr.fn) E.glob fr.tm h o
 generalize yL0 C cn (E.lit fr.fn) P E.glob fr.tm h o=r at hok
 cases r with
 | val v h1 =>
  rw [show qx0 C cn (E.lit fr.fn) P E.glob fr.tm h o=.val v h1 from hok]
  exact goK_ok hn
 | obl v h1 φ =>
  refine .need fun hφ=>?_
  rw [show qx0 C cn (E.lit fr.fn) P E.glob fr.tm h o=.val v h1 from hok hφ]
  exact goK_ok hn
 | skip h1 =>
  rw [show qx0 C cn (E.lit fr.fn) P E.glob fr.tm h o=.skip h1 from hok]
  exact goK_ok hn
 | no=>exact rsK_ok hT hr hn _
 omit hT hr in theorem lookup_op {o:Oper} {lit:Bool} {tm:T V} {h:Heap} {t:TypeId} {m key:Operand} {ok cn:Bool} (ho:o.op=.lookup t m key ok):qx0 C cn lit P E.glob tm h o=o2 E.glob tm h m key (lookup P h t ok):=by
  have e:qi0 lit P E.glob tm h o=o2 E.glob tm h m key (lookup P h t ok):=by
   rw [zd0 (fun _ _ _ e=>by rw [ho] at e;cases e)]
   unfold qB0;rw [ho];rfl
  cases cn with
  | false=>exact e
  | true =>
   change opC P C E.glob tm o (qi0 lit P E.glob tm h o)=_
   unfold opC;rw [ho];exact e
 omit hT hr in theorem storeK_ok {cn:Bool} {o:Oper} {fr:Fr} {next:Fr→Heap→β} {nextR:Fr→Heap→Res} {h:Heap} {k:Res→β} {d:β} {ihr:Task→Res} (hn:∀ fr h,Nr bot k (next fr h) (nextR fr h)) (hd:Nr bot k d (ze0 E ihr false o fr nextR (fun v h=>.code (.panic v) fr h) (qx0 C cn (E.lit fr.fn) P E.glob fr.tm h o))):Nr bot k (KH0 P E C bot o fr next h k d) (ze0 E ihr false o fr nextR (fun v h=>.code (.panic v) fr h) (qx0 C cn (E.lit fr.fn) P E.glob fr.tm h o)):=by
  unfold KH0
  split
  ·rename_i t a x ho
   split
   ·rename_i r ver off hev
    cases symR C h r with
    | false=>exact hd
    | true =>
     simp only [cond_true]
     split
     ·rename_i v hx
      split
      ·rename_i ver' ty sz pub cap es hg
       refine .need fun hv=>.need fun hs=>?_
       have e0:qi0 (E.lit fr.fn) P E.glob fr.tm h o=jp0 P E.glob fr.tm h t a x:=by
        rw [zd0 (fun _ _ _ e=>by rw [ho] at e;cases e)]
        unfold qB0;rw [ho];rfl
       have e1:qx0 C cn (E.lit fr.fn) P E.glob fr.tm h o=.skip (h.set r (.row ver ty sz pub cap (qR0 sz es off v))):=by
        have e2:qx0 C cn (E.lit fr.fn) P E.glob fr.tm h o=qi0 (E.lit fr.fn) P E.glob fr.tm h o:=by
         cases cn with
         | false=>rfl
         | true =>
          change opC P C E.glob fr.tm o (qi0 (E.lit fr.fn) P E.glob fr.tm h o)=_
          unfold opC;rw [ho]
        rw [e2,e0]
        unfold jp0
        rw [hev]
        simp only [hx]
        rw [XA1 hg hv hs]
       rw [e1]
       exact goK_ok hn
      ·exact hd
     ·exact hd
   ·exact hd
  ·exact hd
 omit hT hr in theorem shiftK_ok {cn:Bool} {o:Oper} {fr:Fr} {next:Fr→Heap→β} {nextR:Fr→Heap→Res} {h:Heap} {k:Res→β} {d:β} {ihr:Task→Res} (hn:∀ fr h,Nr bot k (next fr h) (nextR fr h)) (hd:Nr bot k d (ze0 E ihr false o fr nextR (fun v h=>.code (.panic v) fr h) (qx0 C cn (E.lit fr.fn) P E.glob fr.tm h o))):Nr bot k (KE0 E C bot o fr next h k d) (ze0 E ihr false o fr nextR (fun v h=>.code (.panic v) fr h) (qx0 C cn (E.lit fr.fn) P E.glob fr.tm h o)):=by
  unfold KE0
  split
  ·rename_i op t x y c ho
   cases hc:(C.shf fr.fn&&isShr op) with
   | false=>exact hd
   | true =>
    simp only [cond_true]
    split
    ·rename_i kk a hx
     split
     ·rename_i kb b hy
      refine .need fun hφ=>?_
      have hop:op=.shr:=by
       simp only [Bool.and_eq_true] at hc
       revert hc
       cases op <;> intro hc <;> first | rfl | cases hc.2
      subst hop
      have e0:qi0 (E.lit fr.fn) P E.glob fr.tm h o=o2 E.glob fr.tm h x y (binOp P h t (qC0 x||qC0 y) .shr):=by
       rw [zd0 (fun _ _ _ e=>by rw [ho] at e;cases e)]
       unfold qB0;rw [ho];rfl
      have e2:qx0 C cn (E.lit fr.fn) P E.glob fr.tm h o=qi0 (E.lit fr.fn) P E.glob fr.tm h o:=by
       cases cn with
       | false=>rfl
       | true =>
        change opC P C E.glob fr.tm o (qi0 (E.lit fr.fn) P E.glob fr.tm h o)=_
        unfold opC;rw [ho]
      have e1:qx0 C cn (E.lit fr.fn) P E.glob fr.tm h o=.val (.int kk (a/2^b.toNat)) h:=by
       rw [e2,e0,QN0,hx]
       simp only [hy]
       change qf0 h (bif yG0 .shr||qP0 kk kb then qz0 .shr kk a b else none)=_
       change qf0 h (qz0 .shr kk a b)=_
       rw [hφ];rfl
      rw [e1]
      exact goK_ok hn
     ·exact hd
    ·exact hd
  ·exact hd
 omit hT hr in theorem appK_ok {cn:Bool} {o:Oper} {fr:Fr} {next:Fr→Heap→β} {nextR:Fr→Heap→Res} {h:Heap} {k:Res→β} {d:β} {ihr:Task→Res} (hn:∀ fr h,Nr bot k (next fr h) (nextR fr h)) (hd:Nr bot k d (ze0 E ihr false o fr nextR (fun v h=>.code (.panic v) fr h) (qx0 C cn (E.lit fr.fn) P E.glob fr.tm h o))):Nr bot k (appK P E C o fr next h k d) (ze0 E ihr false o fr nextR (fun v h=>.code (.panic v) fr h) (qx0 C cn (E.lit fr.fn) P E.glob fr.tm h o)):=by
  unfold appK
  split
  ·rename_i c ho
   split
   ·rename_i b hb
    split
    ·split
     ·rename_i x y hm
      split
      ·rename_i t u hty
       split
       ·rename_i sz es
        split
        ·rename_i e he
         cases hc:(C.apf fr.fn&&zD0 P u&&recvA x&&Nat.beq sz (size P e)&&!(Nat.beq (size P e) 0)) with
         | false=>exact hd
         | true =>
          simp only [cond_true]
          cases hes:ql0 es with
          | false=>exact hd
          | true =>
           have hes:es=[]:=by cases es with
            | nil=>rfl
            | cons _ _=>cases hes
           subst hes
           simp only [Bool.and_eq_true,Bool.not_eq_true',Nat.beq_eq] at hc
           obtain ⟨⟨⟨⟨_,c1⟩,c2⟩,c3⟩,c4⟩:=hc
           subst c3
           have e0:qi0 (E.lit fr.fn) P E.glob fr.tm h o=zq0 P E.glob fr.tm h c:=by
            rw [zd0 (fun _ _ _ e=>by rw [ho] at e;cases e)]
            unfold qB0;rw [ho];rfl
           have e2:qx0 C cn (E.lit fr.fn) P E.glob fr.tm h o=qi0 (E.lit fr.fn) P E.glob fr.tm h o:=by
            cases cn with
            | false=>rfl
            | true =>
             change opC P C E.glob fr.tm o (qi0 (E.lit fr.fn) P E.glob fr.tm h o)=_
             unfold opC;rw [ho]
           have e3:zq0 P E.glob fr.tm h c=.val x h:=by
            rw [ze1,hm]
            simp only [hb,hty]
            change (bif zD0 P u then append P t h x (.osl (size P e) []) else _)=_
            rw [c1]
            simp only [cond_true]
            have hn0:newS P h (size P e) (.osl (size P e) [])=some []:=by
             change (bif Nat.beq (size P e) (size P e) then some [] else none)=_
             rw [show Nat.beq (size P e) (size P e)=true by simp];rfl
            rw [KW0 he (qZ1 hn0) c4]
            revert c2
            cases x <;> intro c2 <;> first | rfl | cases c2
           rw [e2,e0,e3]
           exact goK_ok hn
        ·exact hd
       ·exact hd
      ·exact hd
     ·exact hd
    ·exact hd
   ·exact hd
  ·exact hd
 omit hT hr in theorem opE_cn {cn:Bool} {o:Oper} {fr:Fr} {h:Heap} (hl:∀ r,opC P C E.glob fr.tm o r=r):qx0 C cn (E.lit fr.fn) P E.glob fr.tm h o=qi0 (E.lit fr.fn) P E.glob fr.tm h o:=by
  cases cn with
  | false=>rfl
  | true=>exact hl _
 omit hT hr in theorem orK_ok {cn:Bool} {o:Oper} {fr:Fr} {next:Fr→Heap→β} {nextR:Fr→Heap→Res} {h:Heap} {k:Res→β} {d:β} {ihr:Task→Res} (hn:∀ fr h,Nr bot k (next fr h) (nextR fr h)) (hd:Nr bot k d (ze0 E ihr false o fr nextR (fun v h=>.code (.panic v) fr h) (qx0 C cn (E.lit fr.fn) P E.glob fr.tm h o))):Nr bot k (orK E C bot o fr next h k d) (ze0 E ihr false o fr nextR (fun v h=>.code (.panic v) fr h) (qx0 C cn (E.lit fr.fn) P E.glob fr.tm h o)):=by
  unfold orK
  split
  ·rename_i op t x y c ho
   cases hc:(C.nxt fr.fn&&isOr op) with
   | false=>exact hd
   | true =>
    simp only [cond_true]
    split
    ·rename_i kk a hx
     split
     ·rename_i kb b hy
      refine .need fun ⟨hk,hφ⟩=>?_
      subst hk
      have hop:op=.or:=by
       simp only [Bool.and_eq_true] at hc
       revert hc
       cases op <;> intro hc <;> first | rfl | cases hc.2
      subst hop
      have e0:qi0 (E.lit fr.fn) P E.glob fr.tm h o=o2 E.glob fr.tm h x y (binOp P h t (qC0 x||qC0 y) .or):=by
       rw [zd0 (fun _ _ _ e=>by rw [ho] at e;cases e)]
       unfold qB0;rw [ho];rfl
      have e2:qx0 C cn (E.lit fr.fn) P E.glob fr.tm h o=qi0 (E.lit fr.fn) P E.glob fr.tm h o:=opE_cn fun r=>by unfold opC;rw [ho]
      have e1:qx0 C cn (E.lit fr.fn) P E.glob fr.tm h o=.val (.int kk (orN a b)) h:=by
       rw [e2,e0,QN0,hx]
       simp only [hy]
       change qf0 h (bif yG0 .or||qP0 kk kk then qz0 .or kk a b else none)=_
       rw [show qP0 kk kk=true by cases kk <;> rfl]
       change qf0 h (qz0 .or kk a b)=_
       rw [hφ];rfl
      rw [e1]
      exact goK_ok hn
     ·exact hd
    ·exact hd
  ·exact hd
 omit hT hr in theorem nextK_ok {cn:Bool} {o:Oper} {fr:Fr} {next:Fr→Heap→β} {nextR:Fr→Heap→Res} {h:Heap} {k:Res→β} {d:β} {ihr:Task→Res} (hn:∀ fr h,Nr bot k (next fr h) (nextR fr h)) (hd:Nr bot k d (ze0 E ihr false o fr nextR (fun v h=>.code (.panic v) fr h) (qx0 C cn (E.lit fr.fn) P E.glob fr.tm h o))):Nr bot k (Kd0 E C o fr next h k d) (ze0 E ihr false o fr nextR (fun v h=>.code (.panic v) fr h) (qx0 C cn (E.lit fr.fn) P E.glob fr.tm h o)):=by
  unfold Kd0
  split
  ·rename_i it isString ho
   cases hc:(C.nxt fr.fn&&isString) with
   | false=>exact hd
   | true =>
    have hs:isString=true:=by simp only [Bool.and_eq_true] at hc;exact hc.2
    subst hs
    simp only [cond_true]
    split
    ·rename_i r hev
     split
     ·rename_i s pos hget
      have e0:qi0 (E.lit fr.fn) P E.glob fr.tm h o=yK0 E.glob fr.tm h it true:=by
       rw [zd0 (fun _ _ _ e=>by rw [ho] at e;cases e)]
       unfold qB0;rw [ho];rfl
      have e2:qx0 C cn (E.lit fr.fn) P E.glob fr.tm h o=qi0 (E.lit fr.fn) P E.glob fr.tm h o:=opE_cn fun r=>by unfold opC;rw [ho]
      have hN:yK0 E.glob fr.tm h it true=bif Nat.blt pos (List.len s) then .val (.tup [.bool true,.int .i64 (Int.ofNat pos),.int .i32 (Int.ofNat (Utf8.decode ⟨⟨s⟩⟩ pos).1)]) (h.set r (.siter s (Nat.add pos (Utf8.decode ⟨⟨s⟩⟩ pos).2))) else .val (.tup [.bool false]) h:=by
       unfold yK0
       simp only [cond_true,hev,hget]
      by_cases hlt:pos<s.length
      ·have e1:Nat.blt pos (List.len s)=true:=by rw [Nat.blt_eq,List.len_eq];exact hlt
       rw [decide_eq_true hlt,cond_true,e2,e0,hN,e1]
       exact goK_ok hn
      ·have e1:Nat.blt pos (List.len s)=false:=by
        rw [Bool.eq_false_iff];intro q;rw [Nat.blt_eq,List.len_eq] at q;exact hlt q
       rw [decide_eq_false hlt,cond_false,e2,e0,hN,e1]
       exact goK_ok hn
     ·exact hd
    ·exact hd
  ·exact hd
theorem zh1 {cn:Bool} {o:Oper} {fr:Fr} {next:Fr→Heap→β} {nextR:Fr→Heap→Res} {h:Heap} {k:Res→β} (hn:∀ fr h,Nr bot k (next fr h) (nextR fr h)):Nr bot k (opK P E C Tb ih0 bot rec cn o fr next h k) (ze0 E (qh0 C ih0 ih) false o fr nextR (fun v h=>.code (.panic v) fr h) (qx0 C cn (E.lit fr.fn) P E.glob fr.tm h o)):=by
 unfold opK
 split
 ·rename_i t m key ok ho
  rw [lookup_op (P:=P) (E:=E) (cn:=cn) ho,QN0]
  generalize AM.ev E.glob fr.tm m=o1
  cases o1 with
  | none=>exact .self
  | some mv =>
   simp only
   generalize AM.ev E.glob fr.tm key=o2
   cases o2 with
   | none=>exact .self
   | some kv =>
    simp only
    rw [qJ1]
    cases lookup P h t ok mv kv with
    | none=>exact .self
    | some v=>exact goK_ok hn
 ·exact shiftK_ok hn (storeK_ok hn (appK_ok hn (orK_ok hn (nextK_ok hn (Yy1 hT hr hn)))))
theorem YE1 (all l:List Oper):∀ (fr:Fr) (h:Heap) (k:Res→β),Nr bot k (js0 P E C Tb ih0 bot rec false all l fr h k) (jY0 P E (qh0 C ih0 ih) all l fr h):=by
 induction l with
 | nil=>intro fr h k;exact .self
 | cons o l IH =>
  intro fr h k
  change Nr bot k (match wanted all fr o with
   | none=>k (.none fr.fn (some o))
   | some b=>Bool.rec (goK o fr (fun fr h=>js0 P E C Tb ih0 bot rec false all l fr h k) undef h k) (opK P E C Tb ih0 bot rec false o fr (fun fr h=>js0 P E C Tb ih0 bot rec false all l fr h k) h k) b) (ZP0 P E (qh0 C ih0 ih) all o (jY0 P E (qh0 C ih0 ih) all l) fr h)
  unfold ZP0
  cases wanted all fr o with
  | none=>exact .self
  | some b =>
   cases b with
   | false=>exact goK_ok fun fr h=>IH fr h k
   | true=>exact zh1 (cn:=false) hT hr fun fr h=>IH fr h k
 omit hT hr in theorem preK_ok {o:Oper} {fr:Fr} {h:Heap} {kk:Fr→Heap→β} {σ:Type} {k:σ→β} {f:Fr→Heap→σ} (hk:∀ fr h,Nr bot k (kk fr h) (f fr h)):Nr bot k (preK C bot o fr h kk) (f (zx0 C fr h o).1 (zx0 C fr h o).2):=by
  unfold preK zx0
  cases o.op with
  | store t a v =>
   cases v with
   | tmp i =>
    simp only
    cases C.ps fr.fn t with
    | none=>exact hk fr h
    | some b =>
     simp only
     unfold preF
     cases Nat.blt i fr.n with
     | false=>exact hk fr h
     | true =>
      simp only [cond_true]
      cases yq0 (fr.at' i) with
      | none=>exact hk fr h
      | some v =>
       simp only
       unfold preV
       cases b with
       | false=>exact hk _ _
       | true =>
        refine (zt1 (C:=C) (bot:=bot) (d:=38) (by decide) h v _).then ?_
        change Nr bot k (match AM.pub [] depth h v with
         | some p=>kk (fr.st i (C.nz fr.fn t p.1)) p.2
         | none=>kk fr h) _
        simp only
        cases pub [] depth h v with
        | none=>exact hk fr h
        | some p=>obtain ⟨v',h'⟩:=p;exact hk _ _
   | _=>exact hk fr h
  | _=>exact hk fr h
theorem YD1 (all l:List Oper):∀ (fr:Fr) (h:Heap) (k:Res→β),Nr bot k (js0 P E C Tb ih0 bot rec true all l fr h k) (jZ0 P E C (qh0 C ih0 ih) all l fr h):=by
 induction l with
 | nil=>intro fr h k;exact .self
 | cons o l IH =>
  intro fr h k
  change Nr bot k (preK C bot o fr h (fun fr h=>match wanted all fr o with
   | none=>k (.none fr.fn (some o))
   | some b=>Bool.rec (goK o fr (fun fr h=>js0 P E C Tb ih0 bot rec true all l fr h k) undef h k) (opK P E C Tb ih0 bot rec true o fr (fun fr h=>js0 P E C Tb ih0 bot rec true all l fr h k) h k) b)) (QY0 P E C (qh0 C ih0 ih) all o (jZ0 P E C (qh0 C ih0 ih) all l) (zx0 C fr h o).1 (zx0 C fr h o).2)
  refine preK_ok (f:=fun fr h=>QY0 P E C (qh0 C ih0 ih) all o (jZ0 P E C (qh0 C ih0 ih) all l) fr h) fun fr h=>?_
  unfold QY0
  cases wanted all fr o with
  | none=>exact .self
  | some b =>
   cases b with
   | false=>exact goK_ok fun fr h=>IH fr h k
   | true=>exact zh1 (cn:=true) hT hr fun fr h=>IH fr h k
 omit hT hr in theorem lookup_opL {o:Oper} {tm:T V} {h:Heap} {t:TypeId} {m key:Operand} {ok:Bool} (ho:o.op=.lookup t m key ok):qo0 P E.glob tm h o=o2 E.glob tm h m key (lookup P h t ok):=by
  have e:qB0 P E.glob tm h o=o2 E.glob tm h m key (lookup P h t ok):=by
   unfold qB0;rw [ho];rfl
  rw [← e]
  unfold qo0
  split
  ·rename_i t len ps e;rw [ho] at e;cases e
  ·rfl
theorem jJ1 (tm:T V) (h:Heap) (o:Oper) (k:Outc→β):Nr bot k (Xi0 P E C Tb ih0 bot rec tm h o k) (qk0 P E (qh0 C ih0 ih) tm h o):=by
 unfold Xi0 qk0
 have hok:=qD1 (P:=P) (C:=C) E.glob tm h o
 generalize QD0 C P E.glob tm h o=r at hok
 cases r with
 | val v h1 =>
  rw [show qo0 P E.glob tm h o=.val v h1 from hok]
  exact .self
 | obl v h1 φ =>
  refine .need fun hφ=>?_
  rw [show qo0 P E.glob tm h o=.val v h1 from hok hφ]
  exact .self
 | skip h1 =>
  rw [show qo0 P E.glob tm h o=.skip h1 from hok]
  exact .self
 | no =>
  simp only
  cases qo0 P E.glob tm h o with
  | call f args h'=>exact (Gn0 hT hr true f args h' _).then .self
  | yield l args h'=>exact (zc0 hT hr _ _).then .self
  | _=>exact .self
theorem jK1 (tm:T V) (h:Heap) (o:Oper) (k:Outc→β):Nr bot k (Xh0 P E C Tb ih0 bot rec tm h o k) (qk0 P E (qh0 C ih0 ih) tm h o):=by
 unfold Xh0
 split
 ·rename_i t m key ok ho
  unfold qk0
  rw [lookup_opL (P:=P) (E:=E) ho,QN0]
  generalize AM.ev E.glob tm m=o1
  cases o1 with
  | none=>exact .self
  | some mv =>
   simp only
   generalize AM.ev E.glob tm key=o2
   cases o2 with
   | none=>exact .self
   | some kv =>
    simp only
    rw [qJ1]
    cases lookup P h t ok mv kv <;> exact .self
 ·exact jJ1 hT hr tm h o k
 omit hT hr in def InvD (P:Program) (E:Env) (ihr:Task→Res) (hs:List Hp) (h:Heap) (rs:List Rc) (ix:List Nat):Prop :=
  ∀ (i:Nat) (r:Rc) (j:Nat),rs[i]?=some r→ix[i]?=some j→j≤hs.length∧(j=hs.length→∃ h',qk0 P E ihr r.tm h r.o=.val r.v h')∧∀ e,j<hs.length→hs[hs.length-1-j]?=some e→∃ h',qk0 P E ihr r.tm e.h r.o=.val r.v h'
 omit hT hr in theorem InvD.write {ihr:Task→Res} {hs:List Hp} {h h':Heap} {rs:List Rc} {ix:List Nat} (hi:InvD P E ihr hs h rs ix) (e:Hp) (he:e.h=h):InvD P E ihr (e::hs) h' rs ix:=fun i r j p q=>by
  obtain ⟨h1,h2,h3⟩:=hi i r j p q
  refine ⟨by simp only [List.length_cons];omega,fun w=>by simp only [List.length_cons] at w;omega,fun x hx hx'=>?_⟩
  simp only [List.length_cons,Nat.add_sub_cancel] at hx hx'
  rcases Nat.lt_or_ge j hs.length with w | w
  ·refine h3 x w ?_
   rw [show hs.length-j=(hs.length-1-j)+1 by omega,List.getElem?_cons_succ] at hx'
   exact hx'
  ·have:j=hs.length:=by omega
   subst this
   rw [Nat.sub_self] at hx'
   simp at hx'
   subst hx'
   rw [he];exact h2 rfl
 omit hT hr in theorem InvD.read {ihr:Task→Res} {hs:List Hp} {h:Heap} {rs:List Rc} {ix:List Nat} (hi:InvD P E ihr hs h rs ix) (r:Rc) (hd:∃ h',qk0 P E ihr r.tm h r.o=.val r.v h'):InvD P E ihr hs h (r::rs) (List.len hs::ix):=fun i r' j p q=>by
  cases i with
  | zero =>
   simp at p q
   subst p;subst q
   rw [List.len_eq]
   exact ⟨Nat.le_refl _,fun _=>hd,fun x w=>absurd w (Nat.lt_irrefl _)⟩
  | succ i=>exact hi i r' j (by simpa using p) (by simpa using q)
 omit hT hr in def EndD (P:Program) (E:Env) (ihr:Task→Res) (r:DR) (ix:List Nat):Prop :=
  match r with
  | .done _ _ hps rcs _=>∀ (i:Nat) (r:Rc) (j:Nat) (e:Hp),rcs[i]?=some r→ix[i]?=some j→j<hps.length→hps[hps.length-1-j]?=some e→∃ h',qk0 P E ihr r.tm e.h r.o=.val r.v h'
  | .stuck _=>True
 omit hT hr in def NrD (P:Program) (E:Env) (ihr:Task→Res) (bot:β) (kk:DR→List Nat→β) (e:β) (r:DR):Prop:=e=bot∨∃ ix,e=kk r ix∧EndD P E ihr r ix
 omit hT hr in theorem NrD.stuck {ihr:Task→Res} {kk:DR→List Nat→β} {o:Option Oper} {ix:List Nat}:NrD P E ihr bot kk (kk (.stuck o) ix) (.stuck o):=.inr ⟨ix,rfl,trivial⟩
 omit hT hr in theorem dPutK_D {ihr:Task→Res} {o:Oper} {v:V} {fr:Fr} {next:Fr→β} {nextR:Fr→DR} {kk:DR→List Nat→β} {ix:List Nat} (hn:∀ fr,NrD P E ihr bot kk (next fr) (nextR fr)):NrD P E ihr bot kk (Qp0 o v fr next (fun r=>kk r ix)) (ja0 o v fr nextR):=by
  unfold Qp0 ja0
  rw [zX1]
  cases fr.put o.dst v with
  | none=>exact .stuck
  | some fr'=>exact hn fr'
 omit hT hr in theorem dValK_ok {ihr:Task→Res} {d:DOp} {next:Fr→Heap→Nat→List Hp→List Rc→Option Pn→List Nat→β} {nextR:DK} {kk:DR→List Nat→β} (hn:∀ fr h pb hs rs pan ix,InvD P E ihr hs h rs ix→NrD P E ihr bot kk (next fr h pb hs rs pan ix) (nextR fr h pb hs rs pan)) (fr:Fr) (h:Heap) (pb:Nat) (hs:List Hp) (rs:List Rc) (pan:Option Pn) (ix:List Nat) (hi:InvD P E ihr hs h rs ix) (r:Outc) (hr:qk0 P E ihr fr.tm h d.o=r) :
  NrD P E ihr bot kk (Yu0 E d next fr h pb hs rs pan ix kk r) (dVal E d nextR fr h pb hs rs pan r):=by
  unfold Yu0 dVal
  cases r with
  | val v h' =>
   simp only
   cases d.w with
   | true =>
    cases qX0 pan with
    | true=>exact dPutK_D (o:=d.o) (v:=v) (fr:=fr) (ix:=ix) fun fr'=>hn fr' h' d.b (⟨pb,h,some d.i⟩::hs) rs pan ix (hi.write ⟨pb,h,some d.i⟩ rfl)
    | false=>exact .stuck
   | false =>
    refine dPutK_D fun fr'=>hn _ _ _ _ _ _ _ ?_
    cases zu0 E d.o.op with
    | true=>exact hi
    | false=>exact hi.read ⟨d.o,d.i,d.b,fr.tm,v⟩ ⟨h',hr⟩
  | panic v h' =>
   simp only
   cases (d.w&&qX0 pan) with
   | true=>exact hn _ _ _ _ _ _ _ (hi.write _ rfl)
   | false=>exact .stuck
  | stuck=>exact .stuck
theorem jE1 (all:List Oper) (l:List DOp):∀ (fr:Fr) (h:Heap) (pb:Nat) (hs:List Hp) (rs:List Rc) (pan:Option Pn) (ix:List Nat) (kk:DR→List Nat→β),InvD P E (qh0 C ih0 ih) hs h rs ix→NrD P E (qh0 C ih0 ih) bot kk (Zq0 P E C Tb ih0 bot rec all l fr h pb hs rs pan ix kk) (yg0 P E (qh0 C ih0 ih) all l fr h pb hs rs pan):=by
 induction l with
 | nil =>
  intro fr h pb hs rs pan ix kk hi
  refine .inr ⟨ix,rfl,?_⟩
  change EndD P E (qh0 C ih0 ih) (.done fr h (bif qX0 pan then ⟨pb,h,none⟩::hs else hs) rs pan) ix
  intro i r j e p q w hx
  cases hp:qX0 pan with
  | true =>
   rw [hp] at w hx
   exact (hi.write (h':=h) ⟨pb,h,none⟩ rfl i r j p q).2.2 e w hx
  | false =>
   rw [hp] at w hx
   exact (hi i r j p q).2.2 e w hx
 | cons d l IH =>
  intro fr h pb hs rs pan ix kk hi
  change NrD P E (qh0 C ih0 ih) bot kk (Xf0 P E C Tb ih0 bot rec all d (fun fr h pb hs rs pan ix=>Zq0 P E C Tb ih0 bot rec all l fr h pb hs rs pan ix kk) fr h pb hs rs pan ix kk) (Zr0 P E (qh0 C ih0 ih) all d (yg0 P E (qh0 C ih0 ih) all l) fr h pb hs rs pan)
  unfold Xf0 Zr0
  cases ZJ0 pan d.b with
  | true=>exact IH _ _ _ _ _ _ _ _ hi
  | false =>
   simp only [cond_false]
   cases wanted all fr d.o with
   | none=>exact .stuck
   | some t =>
    cases t with
    | true =>
     simp only [cond_true]
     rcases jK1 (C:=C) hT hr fr.tm h d.o (fun r=>Yu0 E d (fun fr h pb hs rs pan ix=>Zq0 P E C Tb ih0 bot rec all l fr h pb hs rs pan ix kk) fr h pb hs rs pan ix kk r) with q | q
     ·exact .inl q
     ·rw [q]
      exact dValK_ok (fun fr h pb hs rs pan ix hi=>IH fr h pb hs rs pan ix kk hi) fr h pb hs rs pan ix hi _ rfl
    | false =>
     simp only [cond_false]
     cases d.w with
     | true =>
      cases qX0 pan with
      | true=>exact dPutK_D (o:=d.o) (v:=undef) (fr:=fr) (ix:=ix) fun fr'=>IH fr' h d.b (⟨pb,h,some d.i⟩::hs) rs pan ix kk (hi.write ⟨pb,h,some d.i⟩ rfl)
      | false=>exact .stuck
     | false=>exact dPutK_D (o:=d.o) (v:=undef) (fr:=fr) (ix:=ix) fun fr'=>IH fr' h pb hs rs pan ix kk hi
 omit hT hr in theorem orD_self {b:Bool} {p:Prop} (h:p):orD b p=true:=by
  unfold orD
  cases b with
  | true=>rfl
  | false=>exact @decide_eq_true p (Classical.propDecidable p) h
 omit hT hr in theorem ckOneK_ok {ihr:Task→Res} (r:Rc) (e:Hp) (x:β):Qo0 P E C bot r e x=bot∨(Qo0 P E C bot r e x=x∧yf0 P E ihr r e=true):=by
  unfold Qo0 yf0
  cases tb e.pb r.i with
  | true=>exact .inr ⟨rfl,rfl⟩
  | false =>
   cases yI0 r.b e.nx with
   | true=>exact .inr ⟨rfl,rfl⟩
   | false =>
    simp only [cond_false]
    unfold Gv0
    split
    ·rename_i t m key ok ho
     unfold qk0
     rw [lookup_opL (P:=P) (E:=E) ho,QN0]
     generalize AM.ev E.glob r.tm m=o1
     cases o1 with
     | none=>exact .inl rfl
     | some mv =>
      simp only
      generalize AM.ev E.glob r.tm key=o2
      cases o2 with
      | none=>exact .inl rfl
      | some kv =>
       simp only
       rcases jS0 (bot:=bot) (φ:=lookup P e.h t ok mv kv=some r.v) (x:=x) with q | ⟨hv,q⟩
       ·exact .inl q
       ·rw [q,hv];exact .inr ⟨rfl,orD_self rfl⟩
    unfold Gw0
    have hok:=qD1 (P:=P) (C:=C) E.glob r.tm e.h r.o
    unfold qk0
    generalize QD0 C P E.glob r.tm e.h r.o=q at hok
    cases q with
    | val v h1 =>
     rw [show qo0 P E.glob r.tm e.h r.o=.val v h1 from hok]
     simp only
     rcases jS0 (bot:=bot) (φ:=r.v=v) (x:=x) with q | ⟨hv,q⟩
     ·exact .inl q
     ·rw [q];exact .inr ⟨rfl,orD_self hv⟩
    | obl v h1 φ =>
     simp only
     rcases jS0 (bot:=bot) (φ:=φ) (x:=need bot (r.v=v) x) with q | ⟨hφ,q⟩
     ·exact .inl q
     ·rw [q,show qo0 P E.glob r.tm e.h r.o=.val v h1 from hok hφ]
      rcases jS0 (bot:=bot) (φ:=r.v=v) (x:=x) with q | ⟨hv,q⟩
      ·exact .inl q
      ·rw [q];exact .inr ⟨rfl,orD_self hv⟩
    | skip h1 =>
     rw [show qo0 P E.glob r.tm e.h r.o=.skip h1 from hok]
     simp only
     rcases jS0 (bot:=bot) (φ:=r.v=undef) (x:=x) with q | ⟨hv,q⟩
     ·exact .inl q
     ·rw [q];exact .inr ⟨rfl,orD_self hv⟩
    | no=>exact .inl rfl
 omit hT hr in theorem ckOne_here {ihr:Task→Res} {r:Rc} {e:Hp} (h:∃ h',qk0 P E ihr r.tm e.h r.o=.val r.v h'):yf0 P E ihr r e=true:=by
  obtain ⟨h',hd⟩:=h
  unfold yf0
  rw [hd]
  change (bif tb e.pb r.i then true else bif yI0 r.b e.nx then true else orD (veq depth r.v r.v) (r.v=r.v))=true
  rw [orD_self (b:=veq depth r.v r.v) (p:=r.v=r.v) rfl]
  cases tb e.pb r.i <;> cases yI0 r.b e.nx <;> rfl
 omit hT hr in theorem ckRowK_ok {ihr:Task→Res} (r:Rc) (j:Option Nat) (x:β):∀ (hps:List Hp),(∀ q e,j=some q→q<hps.length→hps[hps.length-1-q]?=some e→∃ h',qk0 P E ihr r.tm e.h r.o=.val r.v h')→zW0 P E C bot r j hps x=bot∨(zW0 P E C bot r j hps x=x∧qH0 (yf0 P E ihr r) hps=true):=by
  intro hps
  induction hps with
  | nil=>intro _;exact .inr ⟨rfl,rfl⟩
  | cons e l IH =>
   intro hj
   have IH':=IH fun q e' hq hl he=>hj q e' hq (by simp only [List.length_cons];omega) (by
    simp only [List.length_cons,Nat.add_sub_cancel]
    rw [show l.length-q=(l.length-1-q)+1 by omega,List.getElem?_cons_succ];exact he)
   change (bif yb0 j (some (List.len l)) then zW0 P E C bot r j l x else Qo0 P E C bot r e (zW0 P E C bot r j l x))=bot∨((bif yb0 j (some (List.len l)) then zW0 P E C bot r j l x else Qo0 P E C bot r e (zW0 P E C bot r j l x))=x∧(bif yf0 P E ihr r e then qH0 (yf0 P E ihr r) l else false)=true)
   cases hb:yb0 j (some (List.len l)) with
   | true =>
    have hj2:=Je0 _ _ hb
    rw [List.len_eq] at hj2
    have:=ckOne_here (hj l.length e hj2 (by simp) (by simp))
    rw [this]
    exact IH'
   | false =>
    simp only [cond_false]
    rcases ckOneK_ok (C:=C) (ihr:=ihr) r e (zW0 P E C bot r j l x) with h | ⟨h1,h2⟩
    ·exact .inl h
    ·rw [h1,h2]
     exact IH'
 omit hT hr in theorem ckAllK_ok {ihr:Task→Res} (hps:List Hp) (x:β) (rcs:List Rc):∀ (ix:List Nat),(∀ (i:Nat) (r:Rc) (j:Nat) (e:Hp),rcs[i]?=some r→ix[i]?=some j→j<hps.length→hps[hps.length-1-j]?=some e→∃ h',qk0 P E ihr r.tm e.h r.o=.val r.v h')→Qn0 P E C bot hps rcs x ix=bot∨(Qn0 P E C bot hps rcs x ix=x∧jG0 P E ihr hps rcs=true):=by
  induction rcs with
  | nil=>intro ix _;exact .inr ⟨rfl,rfl⟩
  | cons r l IH =>
   intro ix hx
   have key:∀ j ix',(∀ q e,j=some q→q<hps.length→hps[hps.length-1-q]?=some e→∃ h',qk0 P E ihr r.tm e.h r.o=.val r.v h')→(∀ (i:Nat) (r:Rc) (j:Nat) (e:Hp),l[i]?=some r→ix'[i]?=some j→j<hps.length→hps[hps.length-1-j]?=some e→∃ h',qk0 P E ihr r.tm e.h r.o=.val r.v h')→zW0 P E C bot r j hps (Qn0 P E C bot hps l x ix')=bot∨(zW0 P E C bot r j hps (Qn0 P E C bot hps l x ix')=x∧jG0 P E ihr hps (r::l)=true):=fun j ix' h1 h2=>by
    rcases ckRowK_ok (C:=C) r j (Qn0 P E C bot hps l x ix') hps h1 with h | ⟨h3,h4⟩
    ·exact .inl h
    ·rcases IH ix' h2 with h | ⟨h5,h6⟩
     ·left;rw [h3,h]
     ·right
      refine ⟨h3.trans h5,?_⟩
      change (bif qH0 (yf0 P E ihr r) hps then jG0 P E ihr hps l else false)=true
      rw [h4,h6];rfl
   cases ix with
   | nil=>exact key none [] (fun q e hq=>by cases hq) (fun i r' j e _ q=>by simp at q)
   | cons j ix=>exact key (some j) ix (fun q e hq hl he=>by cases hq;exact hx 0 r j e rfl rfl hl he) (fun i r' j' e p q=>hx (i+1) r' j' e (by simpa using p) (by simpa using q))
theorem jP1 (all:List Oper) (fr:Fr) (h:Heap) (k:Res→β):Nr bot k (Xk0 P E C Tb ih0 bot rec all fr h k) (ZU0 P E (qh0 C ih0 ih) all fr h):=by
 unfold Xk0 ZU0
 generalize (bif P.follows .mixedOrders then jI0 E all else none)=o1
 cases o1 with
 | none=>exact .self
 | some l =>
  change Nr bot k (Zq0 P E C Tb ih0 bot rec all l fr h 0 [] [] none [] (fun r ix=>Yw0 P E C bot l fr.fn k r ix)) (Yv0 P E (qh0 C ih0 ih) l fr.fn (yg0 P E (qh0 C ih0 ih) all l fr h 0 [] [] none))
  rcases jE1 (C:=C) hT hr all l fr h 0 [] [] none [] (fun r ix=>Yw0 P E C bot l fr.fn k r ix) (fun i r j p=>by simp at p) with q | ⟨ix,q,hE⟩
  ·exact .inl q
  rw [q]
  generalize yg0 P E (qh0 C ih0 ih) all l fr h 0 [] [] none=r at hE
  unfold Yw0 Yv0
  cases r with
  | stuck o=>exact .self
  | done fr' h' hps rcs pan =>
   simp only
   cases yH0 l with
   | true=>cases pan <;> exact .self
   | false =>
    simp only [cond_false,Bool.false_or]
    have hE':∀ (i:Nat) (r:Rc) (j:Nat) (e:Hp),rcs[i]?=some r→ix[i]?=some j→j<hps.length→hps[hps.length-1-j]?=some e→∃ h',qk0 P E (qh0 C ih0 ih) r.tm e.h r.o=.val r.v h':=hE
    clear hE
    rcases ckAllK_ok (C:=C) (P:=P) (E:=E) (bot:=bot) (ihr:=qh0 C ih0 ih) hps (match pan with
     | none=>k (.code .normal fr' h')
     | some p=>k (.code (.panic p.v) (zk0 l fr') p.h)) rcs ix hE' with q | ⟨q1,q2⟩
    ·exact .inl q
    ·rw [q1,q2]
     cases pan <;> exact .self
theorem zO1 (b:Code) (k:Res→β) (r:Res):Nr bot k (seqK C Tb ih0 bot rec b k r) (jx0 (qh0 C ih0 ih) b r):=by
 cases r with
 | code e fr h=>cases e <;> first | exact zc0 (C:=C) hT hr (.code b fr h) k | exact .self
 | _=>exact .self
theorem JW1 (b:Code) (k:Res→β) (r:Res):Nr bot k (seqL C Tb ih0 bot rec b k r) (jx0 (ihL C (qh0 C ih0 ih)) b r):=by
 cases r with
 | code e fr h=>cases e <;> first | exact (zc0 (C:=C) hT hr (.code b fr h) (fun r=>QH0 C bot h.n (C.live fr.fn b) k r)).then (XZ0 _ _ _ _) | exact .self
 | _=>exact .self
theorem jV1 (lid:Nat) (fr:Fr) (k:Res→β) (r:Res):Nr bot k (Yx0 C Tb ih0 bot rec lid fr k r) (endLoop (qh0 C ih0 ih) lid fr r):=by
 cases r with
 | ret v h =>
  unfold Yx0 endLoop
  simp only
  cases h.get lid with
  | loop st pending fn n tm ps a b d =>
   cases st <;> cases pending <;> first | exact zc0 (C:=C) hT hr (.code _ fr _) k | exact .self
  | _=>exact .self
 | _=>exact .self
theorem Jm1 (f:Operand) (params:Array Tmp) (assign body:Code) (fr:Fr) (h:Heap) (k:Res→β):Nr bot k (Kr0 P E C Tb ih0 bot rec f params assign body fr h k) (ZV0 P E (qh0 C ih0 ih) f params assign body fr h):=by
 unfold Kr0 ZV0
 generalize ev E.glob fr.tm f=o1
 cases o1 with
 | none=>exact .self
 | some fv =>
  simp only
  generalize Qq0 fr h=o2
  cases o2 with
  | none=>exact .self
  | some p =>
   obtain ⟨d,marks,h1⟩:=p
   simp only
   generalize yX0 P (h1.new (.loop .ready .none fr.fn fr.n fr.tm params.toList assign body d)) fv [.func (.yield h1.n) [] []]=o3
   cases o3 with
   | call g args h2 =>
    simp only
    cases E.shared g with
    | true=>exact (zc0 (C:=C) hT hr (.call g args h2) (fun r=>Yx0 C Tb ih0 bot rec h1.n { fr with marks:=marks } k r)).then (jV1 hT hr _ _ _ _)
    | false=>exact .self
   | _=>exact .self
theorem jv1 (c:Code) (fr:Fr) (h:Heap) (k:Res→β):Nr bot k (codeK P E C Tb ih0 bot rec c fr h k) (JH0 P E C (qh0 C ih0 ih) (.code c fr h)):=by
 cases c with
 | region id ops draw =>
  cases draw with
  | true=>exact jP1 hT hr ops.toList fr h k
  | false=>exact YD1 hT hr _ _ _ _ _
 | seq a b=>exact (zc0 (C:=C) hT hr (.code a fr h) (fun r=>seqK C Tb ih0 bot rec b k r)).then (zO1 hT hr b k _)
 | cond c a b =>
  change Nr bot k (match ev E.glob fr.tm c with
   | some (.bool t)=>Bool.rec (qF0 C Tb ih0 bot rec (.code b fr h) k) (qF0 C Tb ih0 bot rec (.code a fr h) k) t
   | _=>k (.none fr.fn .none)) (ZS0 E (qh0 C ih0 ih) c a b fr h)
  unfold ZS0
  generalize ev E.glob fr.tm c=o1
  cases o1 with
  | none=>exact .self
  | some v =>
   cases v with
   | bool t=>cases t <;> exact zc0 (C:=C) hT hr (.code _ fr h) k
   | _=>exact .self
 | block id b=>exact (zc0 (C:=C) hT hr (.code b fr h) (fun r=>k (ZQ0 id r))).then .self
 | loop b=>exact (zc0 (C:=C) hT hr (.code b fr h) (fun r=>QH0 C bot h.n (C.live fr.fn b) (fun r=>seqL C Tb ih0 bot rec (.loop b) k r) r)).then ((XZ0 _ _ _ _).then (JW1 hT hr (.loop b) k _))
 | rangeFunc f params assign body=>exact Jm1 hT hr _ _ _ _ _ _ _
 | scope b=>exact zc0 (C:=C) hT hr (.code b fr h) k
 | _=>exact .self
theorem JI1 (f:FuncId) (fn:Func) (fr:Fr) (l:List (FuncId×List V)):∀ (p:Option V) (h:Heap) (k:Res→β),Nr bot k (zE1 P C Tb ih0 bot rec f fn fr l p h k) (ZO0 P (qh0 C ih0 ih) f fn fr l p h):=by
 induction l with
 | nil=>intro p h k;exact .self
 | cons d l IH =>
  intro p h k
  refine (zc0 (C:=C) hT hr (.dcall d.1 d.2 p h) _).then ?_
  change Nr bot k _ (match qh0 C ih0 ih (.dcall d.1 d.2 p h) with
   | .dret _ h'=>ZO0 P (qh0 C ih0 ih) f fn fr l .none h'
   | .none a b=>.none a b
   | _=>.none f .none)
  cases qh0 C ih0 ih (.dcall d.1 d.2 p h) with
  | dret _ h'=>exact IH _ _ _
  | _=>exact .self
theorem jU1 (f:FuncId) (fn:Func) (k:Res→β) (r:Res):Nr bot k (Xp0 P C Tb ih0 bot rec f fn k r) (Xo0 P (qh0 C ih0 ih) f fn r):=by
 have body:∀ fr p h,Nr bot k (Zs0 P C Tb ih0 bot rec f fn fr p h k) (jJ0 P (qh0 C ih0 ih) f fn fr p h):=fun fr p h=>by
  unfold Zs0 jJ0
  generalize QC0 fr.marks h=o1
  cases o1 with
  | none=>exact .self
  | some h'=>exact JI1 hT hr _ _ _ _ _ _ _
 cases r with
 | code e fr h=>cases e <;> first | exact body _ _ _ | exact .self
 | _=>exact .self
theorem jg1 (f:FuncId) (args:List V) (h:Heap) (k:Res→β):Nr bot k (JX0 P C Tb ih0 bot rec f args h k) (ZR0 P E (qh0 C ih0 ih) f args h):=by
 unfold JX0 ZR0
 generalize P.funcs[f]?=o1
 cases o1 with
 | none=>exact .self
 | some fn =>
  simp only
  cases fn.body with
  | none =>
   simp only
   generalize Zu0 P fn args h=o2
   cases o2 <;> exact .self
  | some body =>
   simp only
   cases Nat.ble (List.len args) fn.ntmps with
   | false=>exact .self
   | true=>exact (zc0 (C:=C) hT hr (.code body ⟨f,fn.ntmps,zT0 args 0 (zP0 (zC0 fn.ntmps)),[],[],.none,.none,false⟩ h) (fun r=>Xp0 P C Tb ih0 bot rec f fn k r)).then (jU1 hT hr f fn k _)
theorem yS1 (l:Nat) (body:Code) (k:Res→β) (r:Res):Nr bot k (Yk0 C Tb ih0 bot rec l body k r) (KB0 (qh0 C ih0 ih) l body r):=by
 cases r with
 | code e fr h =>
  cases e with
  | normal =>
   unfold Yk0 KB0
   simp only
   cases h.get l with
   | loop st pend fn n tm ps a b d=>cases st <;> first | exact zc0 (C:=C) hT hr (.code body fr (h.set l (.loop .busy pend fn n tm ps a b d))) k | exact .self
   | _=>exact .self
  | _=>exact .self
 | _=>exact .self
theorem XU1 (l:Nat) (args:List V) (h:Heap) (k:Res→β):Nr bot k (KR0 C Tb ih0 bot rec l args h k) (ZW0 (qh0 C ih0 ih) l args h):=by
 unfold KR0 ZW0
 cases h.get l with
 | loop st pend fn n tm ps assign body d =>
  simp only
  generalize ZX0 ps n args tm=o1
  cases o1 with
  | none=>exact .self
  | some tm'=>exact (zc0 (C:=C) hT hr (.code assign ⟨fn,n,tm',[],[],some l,.none,false⟩ h) (fun r=>Yk0 C Tb ih0 bot rec l body (fun r2=>k (endRound l r2)) r)).then ((yS1 hT hr l body (fun r2=>k (endRound l r2)) _).then .self)
 | _=>exact .self
theorem jH1 (f:FuncId) (args:List V) (p:Option V) (h:Heap) (k:Res→β):Nr bot k (Xg0 P E C Tb ih0 bot rec f args p h k) (ZT0 P E (qh0 C ih0 ih) f args p h):=by
 unfold Xg0 ZT0
 generalize P.funcs[f]?=o1
 cases o1 with
 | none=>exact .self
 | some fn =>
  simp only
  generalize fn.body=bd
  cases bd with
  | none=>exact .self
  | some c =>
   cases c with
   | seq a rest =>
    cases a with
    | region id ops draw =>
     cases draw with
     | true=>exact .self
     | false =>
      simp only
      generalize ops.toList=l0
      cases l0 with
      | nil=>exact .self
      | cons o l =>
       simp only
       cases (jQ0 o&&ql0 fn.results.toList&&Nat.ble (List.len args) fn.ntmps) with
       | false=>exact .self
       | true =>
        simp only [cond_true]
        generalize Fr.put ⟨f,fn.ntmps,zT0 args 0 (zP0 (zC0 fn.ntmps)),[],[],.none,.none,false⟩ o.dst (Jf0 p)=o2
        cases o2 with
        | some fr1=>exact (YE1 hT hr (o::l) l fr1 h (fun r=>seqK C Tb ih0 bot rec rest (fun r2=>k (Zt0 f r2)) r)).then ((zO1 hT hr rest (fun r2=>k (Zt0 f r2)) _).then .self)
        | none=>exact .self
    | _=>exact .self
   | _=>exact .self
theorem Xq1 (t:Task) (k:Res→β):Nr bot k (stepK P E C Tb ih0 bot rec t k) (JH0 P E C (qh0 C ih0 ih) t):=by
 cases t with
 | code c fr h=>exact jv1 hT hr c fr h k
 | call f args h=>exact jg1 (E:=E) hT hr f args h k
 | yield l args h=>exact XU1 hT hr l args h k
 | dcall f args p h=>exact jH1 hT hr f args p h k
end ok
theorem evT_ok {P:Program} {E:Env} {C:Cf} {Tb:Task→Option Ent} {ih0:Task→Res} {β:Type} {bot:β} (hT:Ze0 ih0 Tb) (m:Nat):∀ t k,Nr bot k (evT P E C Tb ih0 bot m t k) (inn P E C ih0 m t):=by
 induction m with
 | zero=>intro t k;exact .self
 | succ m IH=>intro t k;exact Xq1 hT IH t k
def exR {α ε:Type} (R:α→Res) (Q:ε→Res) (r:Res):PR α ε :=
 @dite (PR α ε) (∃ a,r=R a) (Classical.propDecidable _) (fun h=>.ok (Classical.choose h)) (fun _=>@dite (PR α ε) (∃ n,r=Q n) (Classical.propDecidable _) (fun h=>.er (Classical.choose h)) (fun _=>.no))
theorem GM0 {α ε:Type} (s t:α→Bool) (R:Bool→Bool→α→Res) (Q:ε→Res) (r:Res):exR (fun a=>R (s a) (t a) a) Q r=.no∨Ent.res ⟨α,ε,exR (fun a=>R (s a) (t a) a) Q r,s,t,R,Q⟩=r:=by
 unfold exR Ent.res
 simp only
 by_cases h1:∃ a,r=R (s a) (t a) a
 ·rw [dif_pos h1];exact .inr (Classical.choose_spec h1).symm
 ·rw [dif_neg h1]
  by_cases h2:∃ n,r=Q n
  ·rw [dif_pos h2];exact .inr (Classical.choose_spec h2).symm
  ·rw [dif_neg h2];exact .inl rfl
def PR.bnd {α ε β:Type} (bot:β) (x:PR α ε) (f:α→β) (g:ε→β):β:=PR.rec (motive:=fun _=>β) bot f g x
def evN (P:Program) (E:Env) (C:Cf) (Tb:Task→Option Ent) (ih0:Task→Res) {β:Type} (bot:β) (t:Task) (k:Res→β):β:=evT P E C Tb ih0 bot 64 t (fun r=>match r with
 | .none _ _=>bot
 | r=>finK C bot t k r)
theorem evN_ok {P:Program} {E:Env} {C:Cf} {Tb:Task→Option Ent} {n:Nat} {β:Type} {bot:β} (hT:Ze0 (rn P E C n) Tb) (t:Task) (k:Res→β):Nr bot k (evN P E C Tb (rn P E C n) bot t k) (rn P E C (n+1) t):=by
 refine (evT_ok hT 64 t _).then ?_
 generalize hr:inn P E C (rn P E C n) 64 t=r
 have e:rn P E C (n+1) t=finT C t r:=by rw [← hr];rfl
 rw [e]
 cases r with
 | none a b=>exact .inl rfl
 | _=>exact Qx1 t k _
end
end Go.AM
