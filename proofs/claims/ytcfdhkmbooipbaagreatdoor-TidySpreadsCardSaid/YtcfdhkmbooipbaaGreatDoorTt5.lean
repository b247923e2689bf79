/-
  AN ABSTRACT MACHINE that runs a program over plain data, and a second one that tells what calls come to, are sound against the model (a part of it). No condition but what each theorem says.
-/
import Derived.Test.YtcfdhkmbooipbaaGreatDoorTt4
namespace Go.AM
noncomputable section
open Go.RowKit
def asInt:V→Int
 | .int _ n=>n
 | _=>0
def asStr:V→List UInt8
 | .str s=>s
 | _=>[]
def asBool:V→Bool
 | .bool b=>b
 | _=>false
def qK0:V→List V
 | .osl _ es=>es
 | _=>[]
def QB0 (sz:Nat) (es:List V) (off i:Nat):V:=((es.getD (off/sz) undef).cells).getD (off%sz+i) undef
def gI (sz:Nat) (es:List V) (off i:Nat):Int:=asInt (QB0 sz es off i)
def gS (sz:Nat) (es:List V) (off i:Nat):List UInt8:=asStr (QB0 sz es off i)
def gB (sz:Nat) (es:List V) (off i:Nat):Bool:=asBool (QB0 sz es off i)
def gE (sz:Nat) (es:List V) (off i:Nat):List V:=qK0 (QB0 sz es off i)
def etaC (P:Program) (t:TypeId) (sz:Nat) (es:List V) (off i:Nat):Option V :=
 match P.underlying t with
 | some (.int k)=>some (.int k (gI sz es off i))
 | some .string=>some (.str (gS sz es off i))
 | some .bool=>some (.bool (gB sz es off i))
 | some (.slice e)=>some (.osl (size P e) (gE sz es off i))
 | _=>none
def etaL (P:Program) (sz:Nat) (es:List V) (off:Nat) (ts:List TypeId):Nat→Option (List V) :=
 List.rec (motive:=fun _=>Nat→Option (List V)) (fun _=>some []) (fun t _ ih i=>match etaC P t sz es off i with
  | some c=>(match ih (Nat.succ i) with
   | some l=>some (c::l)
   | none=>none)
  | none=>none) ts
def qO0 (P:Program) (t:TypeId) (sz:Nat) (es:List V) (off:Nat):Option V :=
 match Xo0 P 6 t with
 | some ts=>(match etaL P sz es off ts 0 with
  | some cs=>yf0 P t cs
  | none=>none)
 | none=>none
def ldX (P:Program) (t:TypeId) (sz:Nat) (es:List V) (off:Nat):Prop:=load P Heap.empty t (.gptr sz es off)=qO0 P t sz es off
def symR (C:Cf) (h:Heap) (r:Nat):Bool:=match h.get r with
 | .row _ ty _ _ cap _=>bif qJ0 cap then C.srow ty else false
 | _=>false
def YO0 (P:Program) (C:Cf) (h:Heap) (t:TypeId) (a:V) (d:So):So :=
 match a with
 | .ptr r ver off=>bif symR C h r then (match h.get r with
  | .row ver' _ sz _ _ es=>(match qO0 P t sz es off with
   | some v=>.obl v h (ver=ver'∧ldX P t sz es off)
   | none=>.no)
  | _=>.no) else d
 | _=>d
theorem yX1 (P:Program) (C:Cf) (h:Heap) (t:TypeId) (a:V) {d:So} (hd:So.ok (qj0 h (load P h t a)) d):So.ok (qj0 h (load P h t a)) (YO0 P C h t a d):=by
 unfold YO0
 split
 ·rename_i r ver off
  cases symR C h r with
  | false=>exact hd
  | true =>
   simp only [cond_true]
   split
   ·rename_i ver' ty sz pub cap es hg
    split
    ·rename_i v hv
     rintro ⟨rfl,hl⟩
     have e:load P h t (.ptr r ver off)=load P Heap.empty t (.gptr sz es off):=by
      unfold load
      simp only [hg]
      rw [show Nat.beq ver ver=true by simp]
      rfl
     have hl:load P Heap.empty t (.gptr sz es off)=qO0 P t sz es off:=hl
     rw [e,hl,hv];rfl
    ·trivial
   ·trivial
 ·exact hd
def ZN0 (P:Program) (C:Cf) (h:Heap) (t:TypeId) (a:V):So :=
 match a with
 | .gptr sz es off=>(match qO0 P t sz es off with
  | some v=>.obl v h (ldX P t sz es off)
  | none=>.no)
 | a=>YO0 P C h t a (ofO h (load P h t a))
def ya0 (P:Program) (t:TypeId) (sz:Nat) (es:List V) (off:Nat):Option V :=
 match load P Heap.empty t (.gptr sz es off) with
 | some v=>some (zW0 P t v)
 | none=>none
def ldC (P:Program) (t:TypeId) (sz:Nat) (es:List V) (off:Nat):Prop:=ya0 P t sz es off=qO0 P t sz es off
def ZM0 (P:Program) (C:Cf) (h:Heap) (t:TypeId) (a:V):So :=
 match a with
 | .gptr sz es off=>(match qO0 P t sz es off with
  | some v=>.obl v h (ldC P t sz es off)
  | none=>.no)
 | a=>YO0 P C h t a (ofO h (load P h t a))
def canS (P:Program) (t:TypeId) (r:So):So :=
 match r with
 | .val v h=>.val (zW0 P t v) h
 | .obl v h φ=>.obl (zW0 P t v) h φ
 | r=>r
def ja0 (C:Cf) (cn lit:Bool) (P:Program) (G:Nat→Option V) (tm:T V) (h:Heap) (o:Oper):So :=
 match o.op with
 | .load t a=>s1 G tm a (Bool.rec (ZN0 P C h t) (ZM0 P C h t) cn)
 | .build t _=>Bool.rec (ye0 lit P G tm h o) (bif C.cb t then canS P t (ye0 lit P G tm h o) else ye0 lit P G tm h o) cn
 | _=>ye0 lit P G tm h o
def qs0 (C:Cf) (cn lit:Bool) (P:Program) (G:Nat→Option V) (tm:T V) (h:Heap) (o:Oper):Rs:=Bool.rec (qm0 lit P G tm h o) (opC P C G tm o (qm0 lit P G tm h o)) cn
def ZK0 (C:Cf) (P:Program) (G:Nat→Option V) (tm:T V) (h:Heap) (o:Oper):So :=
 match o.op with
 | .load t a=>s1 G tm a (ZN0 P C h t)
 | _=>litD P G tm h o
theorem Ki1 (P:Program) (C:Cf) (h:Heap) (t:TypeId) (a:V):So.ok (qj0 h (load P h t a)) (ZN0 P C h t a):=by
 cases a with
 | gptr sz es off =>
  unfold ZN0
  simp only
  cases he:qO0 P t sz es off with
  | none=>trivial
  | some v =>
   intro hl
   have hl:load P h t (.gptr sz es off)=qO0 P t sz es off:=hl
   rw [hl,he];rfl
 | _=>exact yX1 P C h t _ (zq0 h _)
theorem Go0 {P:Program} {lit:Bool} {G:Nat→Option V} {tm:T V} {h:Heap} {o:Oper} {t:TypeId} {a:Operand} (ho:o.op=.load t a):qm0 lit P G tm h o=o1 G tm h a (load P h t)∧qt0 P G tm h o=o1 G tm h a (load P h t):=by
 have hb:∀ t len ps,o.op≠.buildSlice t len ps:=fun _ _ _ e=>by rw [ho] at e;cases e
 have e0:qC0 P G tm h o=o1 G tm h a (load P h t):=by unfold qC0;rw [ho];rfl
 refine ⟨(zi0 hb).trans e0,?_⟩
 rw [← e0]
 unfold qt0
 split
 ·rename_i t len ps e;exact absurd e (hb t len ps)
 ·rfl
theorem Qk1 (P:Program) (C:Cf) (G:Nat→Option V) (tm:T V) (h:Heap) (t:TypeId) (a:Operand):So.ok (o1 G tm h a (load P h t)) (s1 G tm a (ZN0 P C h t)):=by
 rw [ZV0]
 unfold s1
 cases AM.ev G tm a with
 | none=>trivial
 | some v=>exact Ki1 P C h t v
theorem jC1 {P:Program} {C:Cf} (cn lit:Bool) (G:Nat→Option V) (tm:T V) (h:Heap) (o:Oper):So.ok (qs0 C cn lit P G tm h o) (ja0 C cn lit P G tm h o):=by
 by_cases hb:∃ t a,o.op=.load t a
 ·obtain ⟨t,a,ho⟩:=hb
  have e1:ja0 C cn lit P G tm h o=s1 G tm a (Bool.rec (ZN0 P C h t) (ZM0 P C h t) cn):=by unfold ja0;rw [ho]
  have e2:opC P C G tm o (qm0 lit P G tm h o)=bif isGp (AM.ev G tm a) then (match qm0 lit P G tm h o with
   | .val v h=>.val (zW0 P t v) h
   | r=>r) else qm0 lit P G tm h o:=by unfold opC;rw [ho];rfl
  unfold qs0
  rw [e1,e2,(Go0 ho).1]
  cases cn with
  | false=>exact Qk1 P C G tm h t a
  | true =>
   rw [ZV0]
   unfold s1
   cases AM.ev G tm a with
   | none=>trivial
   | some v =>
    change So.ok (bif isGp (some v) then (match qj0 h (load P h t v) with
     | .val v h=>.val (zW0 P t v) h
     | r=>r) else qj0 h (load P h t v)) (ZM0 P C h t v)
    cases hg:isGp (some v) with
    | false =>
     have e:ZM0 P C h t v=YO0 P C h t v (ofO h (load P h t v)):=by
      unfold ZM0
      split
      ·cases hg
      ·rfl
     rw [e];exact yX1 P C h t v (zq0 h _)
    | true =>
     obtain ⟨sz,es,off,rfl⟩:∃ sz es off,v=.gptr sz es off:=by
      cases v <;> first | exact ⟨_,_,_,rfl⟩ | cases hg
     simp only [cond_true]
     unfold ZM0
     simp only
     cases he:qO0 P t sz es off with
     | none=>trivial
     | some v =>
      intro hl
      change ya0 P t sz es off=qO0 P t sz es off at hl
      rw [he] at hl
      unfold ya0 at hl
      have e:load P Heap.empty t (.gptr sz es off)=load P h t (.gptr sz es off):=rfl
      rw [e] at hl
      cases hv:load P h t (.gptr sz es off) with
      | none=>rw [hv] at hl;cases hl
      | some x=>rw [hv] at hl;simp only [Option.some.injEq] at hl;rw [← hl];rfl
 ·have h0:=jD1 (P:=P) lit G tm h o
  by_cases hb2:∃ t ps,o.op=.build t ps
  ·obtain ⟨t,ps,ho⟩:=hb2
   have e1:ja0 C cn lit P G tm h o=Bool.rec (ye0 lit P G tm h o) (bif C.cb t then canS P t (ye0 lit P G tm h o) else ye0 lit P G tm h o) cn:=by unfold ja0;rw [ho]
   have e2:opC P C G tm o (qm0 lit P G tm h o)=bif C.cb t then (match qm0 lit P G tm h o with
    | .val v h=>.val (zW0 P t v) h
    | r=>r) else qm0 lit P G tm h o:=by unfold opC;rw [ho];rfl
   unfold qs0
   rw [e1,e2]
   cases cn with
   | false=>exact h0
   | true =>
    cases C.cb t with
    | false=>exact h0
    | true =>
     simp only [cond_true]
     generalize ye0 lit P G tm h o=q at h0
     cases q with
     | val v h1=>rw [show qm0 lit P G tm h o=.val v h1 from h0];rfl
     | obl v h1 φ=>intro hφ;rw [show qm0 lit P G tm h o=.val v h1 from h0 hφ]
     | skip h1=>rw [show qm0 lit P G tm h o=.skip h1 from h0];rfl
     | no=>trivial
  ·have e1:ja0 C cn lit P G tm h o=ye0 lit P G tm h o:=by
    unfold ja0
    split
    ·rename_i t a e;exact absurd ⟨t,a,e⟩ hb
    ·rename_i t a e;exact absurd ⟨t,a,e⟩ hb2
    ·rfl
   have e2:opC P C G tm o (qm0 lit P G tm h o)=qm0 lit P G tm h o:=by
    unfold opC
    split
    ·rename_i t a e;exact absurd ⟨t,a,e⟩ hb
    ·rename_i t a e;exact absurd ⟨t,a,e⟩ hb2
    ·rfl
   unfold qs0
   rw [e1,e2]
   cases cn <;> exact h0
theorem yW1 {P:Program} {C:Cf} (G:Nat→Option V) (tm:T V) (h:Heap) (o:Oper):So.ok (qt0 P G tm h o) (ZK0 C P G tm h o):=by
 unfold ZK0
 split
 ·rename_i t a ho
  rw [(Go0 (lit:=false) ho).2];exact Qk1 P C G tm h t a
 ·exact Kf1 (P:=P) G tm h o
def eqB (x y:V):Option Bool :=
 match x with
 | .str a=>(match y with
  | .str b=>some (decide (a=b))
  | _=>none)
 | x=>eqS x y
theorem eqB_eq (x y:V):eqB x y=eqS x y:=by
 cases x with
 | str a =>
  cases y with
  | str b =>
   change some (decide (a=b))=some (zC0 a b)
   rw [Zg0,Ko0]
  | _=>rfl
 | _=>rfl
def JT0 {β:Type} (k:V) (l:List (V×V)) (kk:Option (Option V)→β):β :=
 List.rec (kk (some none)) (fun p _ ih=>match eqB k p.1 with
  | some b=>Bool.rec ih (kk (some (some p.2))) b
  | none=>kk none) l
theorem yi1 {β:Type} (k:V) (l:List (V×V)) (kk:Option (Option V)→β):JT0 k l kk=kk (findKey k l):=by
 induction l with
 | nil=>rfl
 | cons p l IH =>
  change (match eqB k p.1 with
   | some b=>Bool.rec (JT0 k l kk) (kk (some (some p.2))) b
   | none=>kk none)=kk (findKey k (p::l))
  rw [yj1,eqB_eq]
  cases eqS k p.1 with
  | none=>rfl
  | some b=>cases b <;> first | exact IH | rfl
def Xq0 {β:Type} (P:Program) (t:TypeId) (ok:Bool) (h:Heap) (m k:V) (kk:Option V→β):β :=
 match ZQ0 P t with
 | none=>kk none
 | some (kt,e)=>bif zf0 P kt k then (match m with
  | .nilm=>kk (jV0 P ok e (some none))
  | .map r=>(match h.get r with
   | .map es=>JT0 k es (fun x=>kk (jV0 P ok e x))
   | _=>kk none)
  | .gmap ks vs=>JT0 k (Qv0 ks vs) (fun x=>kk (jV0 P ok e x))
  | _=>kk none) else kk none
theorem jc1 {β:Type} (P:Program) (t:TypeId) (ok:Bool) (h:Heap) (m k:V) (kk:Option V→β):Xq0 P t ok h m k kk=kk (lookup P h t ok m k):=by
 unfold Xq0 lookup
 cases ZQ0 P t with
 | none=>rfl
 | some p =>
  obtain ⟨kt,e⟩:=p
  simp only
  cases zf0 P kt k with
  | false=>rfl
  | true =>
   simp only [cond_true]
   cases m with
   | map r =>
    simp only
    cases h.get r with
    | map es=>exact yi1 k es _
    | _=>rfl
   | gmap ks vs=>exact yi1 k (Qv0 ks vs) _
   | _=>rfl
inductive PR (α ε:Type) where
 | no
 | ok (a:α)
 | er (e:ε)
structure Ent where
 α:Type
 ε:Type
 x:PR α ε
 s:List (α→Bool)
 R:List Bool→α→Res
 Q:ε→Res
def ent {α ε:Type} (x:PR α ε) (R:α→Res) (Q:ε→Res):Ent:=⟨α,ε,x,[],fun _=>R,Q⟩
def ji0 {α ε:Type} (x:PR α ε) (s:α→Bool) (R:Bool→α→Res) (Q:ε→Res):Ent:=⟨α,ε,x,[s],fun l=>R (l.getD 0 false),Q⟩
def ent4 {α ε:Type} (x:PR α ε) (s t:α→Bool) (R:Bool→Bool→α→Res) (Q:ε→Res):Ent:=⟨α,ε,x,[s,t],fun l=>R (l.getD 0 false) (l.getD 1 false),Q⟩
def ent16 {α ε:Type} (x:PR α ε) (s t u w:α→Bool) (R:Bool→Bool→Bool→Bool→α→Res) (Q:ε→Res):Ent:=⟨α,ε,x,[s,t,u,w],fun l=>R (l.getD 0 false) (l.getD 1 false) (l.getD 2 false) (l.getD 3 false),Q⟩
def Ent.res (e:Ent):Res :=
 match e.x with
 | .no=>.none 0 none
 | .ok a=>e.R (e.s.map (· a)) a
 | .er n=>e.Q n
def jE0 (ih0:Task→Res) (Tb:Task→Option Ent):Prop:=∀ t e,Tb t=some e→e.x=.no∨e.res=ih0 t
def putDf (e:V) (j:Nat) (cs:List V):V :=
 match yo0 e j cs with
 | some e'=>e'
 | none=>e
def qT0 (sz:Nat) (es:List V) (off:Nat) (v:V):List V:=List.setN (putDf (es.getD (off/sz) undef) (off%sz) v.cells) es (off/sz)
def stX (P:Program) (t:TypeId) (v:V) (pub sz:Nat) (es:List V) (off:Nat):Prop:=v.flat=true∧v.cells.length=size P t∧pub≤off/sz∧1≤size P t∧off/sz<es.length∧yo0 (es.getD (off/sz) undef) (off%sz) v.cells≠none
def isShr:BinOp→Bool
 | .shr=>true
 | _=>false
theorem zK2 {P:Program} {h:Heap} {t:TypeId} {r ver ver' ty sz pub off:Nat} {cap:Option Nat} {es:List V} {v:V} (hg:h.get r=.row ver' ty sz pub cap es) (hv:ver=ver') (hs:stX P t v pub sz es off):store P h t (.ptr r ver off) v=some (h.set r (.row ver ty sz pub cap (qT0 sz es off v))):=by
 subst hv
 obtain ⟨h1,h2,h3,h4,h5,h6⟩:=hs
 have hat:List.at es (Nat.div off sz)=some (es.getD (off/sz) undef):=by
  rw [List.at_eq]
  change es[off/sz]?=_
  rw [List.getElem?_eq_getElem h5,List.getD_eq_getElem?_getD,List.getElem?_eq_getElem h5]
  rfl
 unfold store
 simp only [hg]
 have e0:(Nat.beq ver ver&&v.flat&&Nat.beq (List.len v.cells) (size P t)&&Nat.ble pub (Nat.div off sz)&&Nat.ble 1 (size P t))=true:=by
  simp only [Bool.and_eq_true,Nat.beq_eq,Nat.ble_eq,List.len_eq]
  exact ⟨⟨⟨⟨trivial,h1⟩,h2⟩,h3⟩,h4⟩
 rw [e0]
 simp only [cond_true,hat]
 unfold qT0 putDf
 change (match yo0 (es.getD (off/sz) undef) (off%sz) v.cells with
  | some e'=>some (h.set r (.row ver ty sz pub cap (List.setN e' es (off/sz))))
  | none=>none)=_
 cases hp:yo0 (es.getD (off/sz) undef) (off%sz) v.cells with
 | none=>exact absurd hp h6
 | some e'=>rfl
section defs
variable (P:Program) (E:Env) (C:Cf) (Tb:Task→Option Ent) (ih0:Task→Res) {β:Type} (bot:β)
def Ent.run (e:Ent) (k:Res→β):β:=PR.rec (motive:=fun _=>β) bot (fun a=>List.rec (motive:=fun _=>List Bool→β) (fun l=>k (e.R l a)) (fun s _ ih l=>Bool.rec (ih (l++[false])) (ih (l++[true])) (s a)) e.s []) (fun n=>k (e.Q n)) e.x
def oK (t:Task) (k:Res→β):β :=
 match Tb t with
 | some e=>e.run bot k
 | none=>k (ih0 t)
variable (rec:Task→(Res→β)→β)
def KX0 (f:FuncId) (args:List V) (h:Heap) (k:Res→β):β :=
 needs bot (ZC0 C h (qZ0 C h 60 (qq0 (qp0 8) args) [])) (match qc0 (rnV (ql0 (qZ0 C h 60 (qq0 (qp0 8) args) [])) 8) args with
 | none=>rec (.call f args h) k
 | some as=>match qc0 (fun r=>rnH C h (ql0 (qZ0 C h 60 (qq0 (qp0 8) args) [])) r) (qZ0 C h 60 (qq0 (qp0 8) args) []) with
  | none=>rec (.call f args h) k
  | some os=>bif okR h.n (qZ0 C h 60 (qq0 (qp0 8) args) []) then oK Tb ih0 bot (.call f as (hp os)) (fun r=>outK C bot h (qZ0 C h 60 (qq0 (qp0 8) args) []) k r) else rec (.call f args h) k)
def JX0 (ks:Option (List Nat×List Nat×List Nat)) (b:Code) (fr:Fr) (h:Heap) (k:Res→β):β :=
 match ks with
 | none=>oK Tb ih0 bot (.code (.loop b) fr (zl0 h)) k
 | some ks=>needs bot (jS0 C h) (
  (fun ρ=>bif Nat.beq (List.len ρ) h.n then oK Tb ih0 bot (.code (.loop b) (fr.on (qv0 fr ks.1)) (zl0 h)) k else
   match qc0 (rnL (ql0 ρ)) (qv0 fr ks.1) with
   | none=>oK Tb ih0 bot (.code (.loop b) (fr.on (qv0 fr ks.1)) (zl0 h)) k
   | some L'=>match YM0 C h ρ ρ with
    | none=>oK Tb ih0 bot (.code (.loop b) (fr.on (qv0 fr ks.1)) (zl0 h)) k
    | some os=>bif okR h.n ρ&&(qb0 fr.marks&&qb0 fr.defers&&qJ0 fr.round) then oK Tb ih0 bot (.code (.loop b) (fr.on L') (hp os)) (fun r=>outCK C bot h ρ ks.2.1 k r) else oK Tb ih0 bot (.code (.loop b) (fr.on (qv0 fr ks.1)) (zl0 h)) k)
   (Gn0 h (qZ0 C h 80 (qc1 h ks fr) [])))
def qS0 (t:Task) (k:Res→β):β :=
 match t with
 | .call f args h=>bif C.inl f then rec (.call f args h) k else KX0 C Tb ih0 bot rec f (C.na f args) h k
 | .code c fr h=>(match c with
  | .loop b=>bif C.unr fr.fn b h.n then rec (.code (.loop b) (wkF (C.live fr.fn b) fr) h) k else bif C.lf fr.fn then JX0 C Tb ih0 bot (C.live fr.fn b) b fr h k else oK Tb ih0 bot (.code (.loop b) (wkF (C.live fr.fn b) fr) (zl0 h)) k
  | c=>rec (.code c fr h) k)
 | t=>rec t k
def goK (o:Oper) (fr:Fr) (next:Fr→Heap→β) (v:V) (h:Heap) (k:Res→β):β :=
 qr1 6 v (fun v=>match fr.put o.dst v with
 | none=>k (.none fr.fn (some o))
 | some fr'=>next fr' h)
def Jw0 (o:Oper) (fr:Fr) (next:Fr→Heap→β) (k:Res→β) (r:Res):β :=
 match r with
 | .ret v h=>goK o fr next v h k
 | .panic v h=>k (.code (.panic v) fr h)
 | .none a b=>k (.none a b)
 | _=>k (.none fr.fn (some o))
def Ku0 (f:FuncId) (args:List V) (h:Heap) (k:Res→β):β :=
 XE0 C bot depth args h (fun x=>match x with
 | .none=>k (.none f .none)
 | some (gs,h1) =>
  match E.prim f gs with
  | some v=>k (QK0 E f (Bool.rec h1 h (E.borrow f)) v)
  | .none=>qS0 C Tb ih0 bot rec (.call f gs Heap.empty) (fun r=>k (QI0 (QK0 E f) (E.borrow f) (Bool.rec h1 h (E.borrow f)) f r)))
def Kw0 (f:FuncId) (args:List V) (h:Heap) (k:Res→β):β :=
 bif qA0 (ground 3) args then
  (match E.prim f args with
  | some v=>k (Jo0 h v)
  | .none=>qS0 C Tb ih0 bot rec (.call f args Heap.empty) (fun r=>k (QI0 Jo0 false h f r)))
 else k (.none f .none)
def ZR1 (f:FuncId) (args:List V) (h:Heap) (k:Res→β):β :=
 qS0 C Tb ih0 bot rec (.call f args h) (fun r=>k (Bool.rec r (Qm0 f r) (E.pubRet f)))
def JH0 (lit:Bool) (f:FuncId) (args:List V) (h:Heap) (k:Res→β):β :=
 Bool.rec (Bool.rec (Ku0 E C Tb ih0 bot rec f args h k) (Kw0 E C Tb ih0 bot rec f args h k) lit) (ZR1 E C Tb ih0 bot rec f args h k) (E.shared f)
def rsK (o:Oper) (fr:Fr) (next:Fr→Heap→β) (k:Res→β) (r:Rs):β :=
 match r with
 | .val v h=>goK o fr next v h k
 | .skip h=>goK o fr next undef h k
 | .call f args h=>JH0 E C Tb ih0 bot rec false f args h (fun r=>Jw0 o fr next k r)
 | .yield l args h=>qS0 C Tb ih0 bot rec (.yield l args h) (fun r=>Jw0 o fr next k r)
 | .panic v h=>k (.code (.panic v) fr h)
 | .defer f args h=>(match fr.round with
  | some _=>k (.none fr.fn (some o))
  | .none=>match fr.marks with
   | []=>goK o { fr with defers:=(f,args)::fr.defers } next undef h k
   | _=>k (.none fr.fn (some o)))
 | .recover _=>k (.none fr.fn (some o))
 | .stuck=>k (.none fr.fn (some o))
def opK' (cn:Bool) (o:Oper) (fr:Fr) (next:Fr→Heap→β) (h:Heap) (k:Res→β):β :=
 match ja0 C cn (E.lit fr.fn) P E.glob fr.tm h o with
 | .val v h1=>goK o fr next v h1 k
 | .obl v h1 φ=>need bot φ (goK o fr next v h1 k)
 | .skip h1=>goK o fr next undef h1 k
 | .no=>rsK E C Tb ih0 bot rec o fr next k (qs0 C cn (E.lit fr.fn) P E.glob fr.tm h o)
def qt1 (o:Oper) (fr:Fr) (next:Fr→Heap→β) (h:Heap) (k:Res→β) (d:β):β :=
 match o.op with
 | .store t a x=>(match ev E.glob fr.tm a with
  | some (.ptr r ver off)=>bif symR C h r then (match ev E.glob fr.tm x with
   | some v=>(match h.get r with
    | .row ver' ty sz pub cap es=>need bot (ver=ver') (need bot (stX P t v pub sz es off) (goK o fr next undef (h.set r (.row ver ty sz pub cap (qT0 sz es off v))) k))
    | _=>d)
   | none=>d) else d
  | _=>d)
 | _=>d
def qo1 (o:Oper) (fr:Fr) (next:Fr→Heap→β) (h:Heap) (k:Res→β) (d:β):β :=
 match o.op with
 | .binOp op t x y _=>bif C.shf fr.fn&&isShr op then (match ev E.glob fr.tm x with
  | some (.int kk a)=>(match ev E.glob fr.tm y with
   | some (.int kb b)=>need bot (qF0 .shr kk a b=some (.int kk (a/2^b.toNat))) (goK o fr next (.int kk (a/2^b.toNat)) h k)
   | _=>d)
  | _=>d) else d
 | _=>d
def XK0:V→Bool
 | .nils=>true
 | .sl _ _ _ _ _=>true
 | .gsl _ _ _=>true
 | _=>false
def appK (o:Oper) (fr:Fr) (next:Fr→Heap→β) (h:Heap) (k:Res→β) (d:β):β :=
 match o.op with
 | .call c=>(match c.callee with
  | .builtin b=>(match b with
   | .append=>(match qc0 (ev E.glob fr.tm) c.args.toList with
    | some [x,y]=>(match c.argTypes.toList with
     | [t,u]=>(match y with
      | .osl sz es=>(match qo0 P t with
       | some e=>bif C.apf fr.fn&&zo0 P u&&XK0 x&&Nat.beq sz (size P e)&&!(Nat.beq (size P e) 0) then Bool.rec d (goK o fr next x h k) (qb0 es) else d
       | none=>d)
      | _=>d)
     | _=>d)
    | _=>d)
   | _=>d)
  | _=>d)
 | _=>d
def orN (a b:Int):Int:=((a.toNat ||| b.toNat:Nat):Int)
def isOr:BinOp→Bool
 | .or=>true
 | _=>false
def orK (o:Oper) (fr:Fr) (next:Fr→Heap→β) (h:Heap) (k:Res→β) (d:β):β :=
 match o.op with
 | .binOp op t x y _=>bif C.nxt fr.fn&&isOr op then (match ev E.glob fr.tm x with
  | some (.int kk a)=>(match ev E.glob fr.tm y with
   | some (.int kb b)=>need bot (kk=kb∧qF0 .or kk a b=some (.int kk (orN a b))) (goK o fr next (.int kk (orN a b)) h k)
   | _=>d)
  | _=>d) else d
 | _=>d
def GD0 (o:Oper) (fr:Fr) (next:Fr→Heap→β) (h:Heap) (k:Res→β) (d:β):β :=
 match o.op with
 | .next it isString=>bif C.nxt fr.fn&&isString then (match ev E.glob fr.tm it with
  | some (.iter r)=>(match h.get r with
   | .siter s pos=>bif decide (pos<s.length) then goK o fr next (.tup [.bool true,.int .i64 (pos:Int),.int .i32 (runeAt s pos:Int)]) (h.set r (.siter s (pos+lenAt s pos))) k else goK o fr next (.tup [.bool false]) h k
   | _=>d)
  | _=>d) else d
 | _=>d
def qq1 (kk:IntKind) (a:Int) (f:V→β) (m:Nat):β:=Nat.rec bot (fun j ih=>bif decide (a=(j:Int)) then f (.int kk (j:Int)) else ih) m
def isRem:BinOp→Bool
 | .rem=>true
 | _=>false
def remK (cn:Bool) (o:Oper) (fr:Fr) (next:Fr→Heap→β) (h:Heap) (k:Res→β) (d:β):β :=
 match o.op with
 | .binOp op _ _ y _=>bif C.spl fr.fn&&isRem op then (match ja0 C cn (E.lit fr.fn) P E.glob fr.tm h o with
  | .obl v h1 φ=>(match v with
   | .int kk a=>(match ev E.glob fr.tm y with
    | some (.int _ b)=>(match b with
     | .ofNat m=>need bot φ (qq1 bot kk a (fun v=>goK o fr next v h1 k) m)
     | _=>d)
    | _=>d)
   | _=>d)
  | _=>d) else d
 | _=>d
def opK (cn:Bool) (o:Oper) (fr:Fr) (next:Fr→Heap→β) (h:Heap) (k:Res→β):β :=
 match o.op with
 | .lookup t m key ok=>(match ev E.glob fr.tm m with
  | some mv=>(match ev E.glob fr.tm key with
   | some kv=>Xq0 P t ok h mv kv (fun x=>match x with
    | some v=>goK o fr next v h k
    | none=>k (.none fr.fn (some o)))
   | none=>k (.none fr.fn (some o)))
  | none=>k (.none fr.fn (some o)))
 | _=>qo1 E C bot o fr next h k (qt1 P E C bot o fr next h k (appK P E C o fr next h k (orK E C bot o fr next h k (GD0 E C o fr next h k (remK P E C bot cn o fr next h k (opK' P E C Tb ih0 bot rec cn o fr next h k))))))
def preK (o:Oper) (fr:Fr) (h:Heap) (kk:Fr→Heap→β):β :=
 match o.op with
 | .store t _ v=>(match v with
  | .tmp i=>(match C.ps fr.fn t with
   | some b=>bif Nat.blt i fr.n then (match yU0 (fr.at' i) with
    | some v=>Bool.rec (kk (fr.st i (C.nz fr.fn t v)) h) (pubK C bot 38 h v (fun r=>match r with
     | some p=>kk (fr.st i (C.nz fr.fn t p.1)) p.2
     | none=>kk fr h)) b
    | none=>kk fr h) else kk fr h
   | none=>kk fr h)
  | _=>kk fr h)
 | _=>kk fr h
def xpK (fr:Fr) (h:Heap) (o:Oper) (kk:Heap→β):β :=
 bif ym0 o then (match Jz0 E.glob fr.tm o with
  | some r=>Yf0 C bot fr.fn h r (fun h=>qW0 (xpH h r) kk)
  | none=>kk h) else kk h
def findT (t:TypeId) (l:List TypeId):Nat→Option Nat:=List.rec (motive:=fun _=>Nat→Option Nat) (fun _=>none) (fun u _ ih i=>bif Nat.beq u t then some i else ih (Nat.succ i)) l
def posT (ty t:TypeId):Option Nat:=bif Nat.beq ty t then some 0 else (match Xo0 P 6 ty with
 | some ts=>findT t ts 0
 | none=>none)
def snK (o:Oper) (fr:Fr) (next:Fr→Heap→β) (h:Heap) (k:Res→β) (d2:Heap→β):β :=
 match o.op with
 | .load t a=>(match ev E.glob fr.tm a with
  | some (.ptr r ver off)=>(match h.get r with
   | .rowS ver' ty sz pb l x=>(match posT P ty t with
    | some j=>bif C.sn ty&&Nat.blt j sz then (match load P (hp [.row 0 ty sz 0 none [x]]) t (.ptr 0 0 j) with
     | some v=>need bot (ver=ver'∧off=l.length*sz+j) (goK o fr next v h k)
     | none=>xpK E C bot fr h o d2) else xpK E C bot fr h o d2
    | none=>xpK E C bot fr h o d2)
   | _=>xpK E C bot fr h o d2)
  | _=>xpK E C bot fr h o d2)
 | .store t a y=>(match ev E.glob fr.tm a with
  | some (.ptr r ver off)=>(match h.get r with
   | .rowS ver' ty sz pb l x=>(match ev E.glob fr.tm y with
    | some v=>(match posT P ty t with
     | some j=>bif C.sn ty&&Nat.blt j sz&&v.flat&&Nat.beq (List.len v.cells) (size P t)&&Nat.ble 1 (size P t) then (match yo0 x j v.cells with
      | some x'=>need bot (ver=ver'∧off=l.length*sz+j∧pb≤l.length) (goK o fr next undef (h.set r (.rowS ver' ty sz pb l x')) k)
      | none=>xpK E C bot fr h o d2) else xpK E C bot fr h o d2
     | none=>xpK E C bot fr h o d2)
    | none=>xpK E C bot fr h o d2)
   | _=>xpK E C bot fr h o d2)
  | _=>xpK E C bot fr h o d2)
 | .call c=>(match c.callee with
  | .builtin b=>(match b with
   | .append=>(match c.args.toList with
    | [a0,a1]=>(match ev E.glob fr.tm a0 with
     | some (.sl r ver o' n cp)=>Yf0 C bot fr.fn h r (fun h=>match h.get r with
      | .rowS ver' ty sz pb l x=>(match ev E.glob fr.tm a1 with
       | some y=>(match c.argTypes.toList with
        | [t,u]=>(match qo0 P t with
         | some e=>(match jJ0 (h.set r (.row ver' ty sz pb none (l++[x]))) (size P e) y with
          | some new=>(match new with
           | [z]=>(match o.dst with
            | some dst=>bif zo0 P u&&C.sn ty&&Nat.beq ty e&&Nat.beq (size P e) sz&&!(Nat.beq (size P e) 0)&&yG0 P e&&qJ0 cp then need bot (ver=ver'∧o'=0∧n=l.length+1∧pb≤n∧n+1≤qL0∧(n+1)*P.bytesOf e≤qL0) (goK o fr next (.sl r (Nat.succ ver) 0 (Nat.add n 1) none) (((h.set r (.row ver' ty sz pb none (l++[x]))).set r (.row (Nat.succ ver) ty sz pb none ((l++[x])++[z]))).set r (.rowS (Nat.succ ver) ty sz pb (l++[x]) z)) k) else qW0 (xpH h r) d2
            | none=>qW0 (xpH h r) d2)
           | _=>qW0 (xpH h r) d2)
          | none=>qW0 (xpH h r) d2)
         | none=>qW0 (xpH h r) d2)
        | _=>qW0 (xpH h r) d2)
       | none=>qW0 (xpH h r) d2)
      | _=>qW0 (xpH h r) d2)
     | _=>xpK E C bot fr h o d2)
    | _=>xpK E C bot fr h o d2)
   | _=>xpK E C bot fr h o d2)
  | _=>xpK E C bot fr h o d2)
 | _=>xpK E C bot fr h o d2
def js0 (cn:Bool) (all l:List Oper):Fr→Heap→(Res→β)→β :=
 List.rec (motive:=fun _=>Fr→Heap→(Res→β)→β) (fun fr h k=>k (.code .normal fr h))
  (fun o _ ih fr h k=>Bool.rec (match wanted all fr o with
   | none=>k (.none fr.fn (some o))
   | some b=>Bool.rec (goK o fr (fun fr h=>ih fr h k) undef h k) (opK P E C Tb ih0 bot rec false o fr (fun fr h=>ih fr h k) h k) b)
   (preK C bot o fr h (fun fr1 h=>match wanted all fr1 o with
   | none=>k (.none fr1.fn (some o))
   | some b=>Bool.rec (xpK E C bot fr1 h o (fun h=>goK o fr1 (fun fr h=>qW0 (zb0 C o fr h) (fun h=>ih fr h k)) undef h k))
    (snK P E C bot o fr1 (fun fr h=>ih fr h k) h k (fun h=>opK P E C Tb ih0 bot rec true o fr1 (fun fr h=>qW0 (zb0 C o fr h) (fun h=>ih fr h k)) h k)) b)) cn) l
def Zv0 (tm:T V) (h:Heap) (o:Oper) (k:Outc→β):β :=
 match ZK0 C P E.glob tm h o with
 | .val v h1=>k (.val v h1)
 | .obl v h1 φ=>need bot φ (k (.val v h1))
 | .skip h1=>k (.val undef h1)
 | .no=>match qt0 P E.glob tm h o with
  | .val v h'=>k (.val v h')
  | .skip h'=>k (.val undef h')
  | .call f args h'=>JH0 E C Tb ih0 bot rec true f args h' (fun r=>k (orOf r))
  | .yield l args h'=>qS0 C Tb ih0 bot rec (.yield l args h') (fun r=>k (orOf r))
  | .panic v h'=>k (.panic v h')
  | _=>k .stuck
def Qu1 (tm:T V) (h:Heap) (t:TypeId) (a:Operand) (k:Outc→β) (d:β):β :=
 match ev E.glob tm a with
 | some (.ptr r ver off)=>(match h.get r with
  | .rowS ver' ty sz _ l x=>(match posT P ty t with
   | some j=>bif Nat.blt j sz then (match load P (hp [.row 0 ty sz 0 none [x]]) t (.ptr 0 0 j) with
    | some v=>need bot (ver=ver'∧off=l.length*sz+j) (k (.val v h))
    | none=>d) else d
   | none=>d)
  | _=>d)
 | _=>d
def Qv1 (tm:T V) (h:Heap) (t:TypeId) (a y:Operand) (k:Outc→β) (d:β):β :=
 match ev E.glob tm a with
 | some (.ptr r ver off)=>(match h.get r with
  | .rowS ver' ty sz pb l x=>(match ev E.glob tm y with
   | some v=>(match posT P ty t with
    | some j=>bif Nat.blt j sz&&v.flat&&Nat.beq (List.len v.cells) (size P t)&&Nat.ble 1 (size P t) then (match yo0 x j v.cells with
     | some x'=>need bot (ver=ver'∧off=l.length*sz+j∧pb≤l.length) (k (.val undef (h.set r (.rowS ver' ty sz pb l x'))))
     | none=>d) else d
    | none=>d)
   | none=>d)
  | _=>d)
 | _=>d
def appD (fn:FuncId) (tm:T V) (h:Heap) (c:Call) (k:Outc→β) (d:β):β :=
 match c.callee with
 | .builtin b=>(match b with
  | .append=>(match qc0 (ev E.glob tm) c.args.toList with
   | some [x,y]=>(match c.argTypes.toList with
    | [t,u]=>(match y with
     | .osl sz es=>(match qo0 P t with
      | some e=>bif C.apf fn&&zo0 P u&&XK0 x&&Nat.beq sz (size P e)&&!(Nat.beq (size P e) 0) then Bool.rec d (k (.val x h)) (qb0 es) else d
      | none=>d)
     | _=>d)
    | _=>d)
   | _=>d)
  | _=>d)
 | _=>d
def KD0 (fn:FuncId) (tm:T V) (h:Heap) (o:Oper) (k:Outc→β):β :=
 match o.op with
 | .lookup t m key ok=>(match ev E.glob tm m with
  | some mv=>(match ev E.glob tm key with
   | some kv=>Xq0 P t ok h mv kv (fun x=>match x with
    | some v=>k (.val v h)
    | none=>k .stuck)
   | none=>k .stuck)
  | none=>k .stuck)
 | .load t a=>Qu1 P E bot tm h t a k (Zv0 P E C Tb ih0 bot rec tm h o k)
 | .store t a y=>Qv1 P E bot tm h t a y k (Zv0 P E C Tb ih0 bot rec tm h o k)
 | .call c=>appD P E C fn tm h c k (Zv0 P E C Tb ih0 bot rec tm h o k)
 | _=>Zv0 P E C Tb ih0 bot rec tm h o k
def Zt0 (o:Oper) (v:V) (fr:Fr) (next:Fr→β) (kk:DR→β):β :=
 qr1 6 v (fun v=>match fr.put o.dst v with
 | none=>kk (.stuck (some o))
 | some fr'=>next fr')
def JL0 (d:DOp) (next:Fr→Heap→Nat→List Hp→List Rc→Option Pn→List Nat→β) (fr:Fr) (h:Heap) (pb:Nat) (hs:List Hp) (rs:List Rc) (pan:Option Pn) (ix:List Nat) (kk:DR→List Nat→β) (r:Outc):β :=
 match r with
 | .val v h'=>bif d.w then (bif zn0 pan then Zt0 d.o v fr (fun fr'=>next fr' h' d.b (⟨pb,h,some d.i⟩::hs) rs pan ix) (fun r=>kk r ix) else kk (.stuck (some d.o)) ix)
  else Zt0 d.o v fr (fun fr'=>next fr' h pb hs (bif zR0 E d.o.op then rs else ⟨d.o,d.i,d.b,fr.tm,v⟩::rs) pan (bif zR0 E d.o.op then ix else List.len hs::ix)) (fun r=>kk r ix)
 | .panic v h'=>bif d.w&&zn0 pan then next fr h pb (⟨pb,h,some d.i⟩::hs) rs (some ⟨d.i,v,h'⟩) ix else kk (.stuck (some d.o)) ix
 | .stuck=>kk (.stuck (some d.o)) ix
def KB0 (all:List Oper) (d:DOp) (next:Fr→Heap→Nat→List Hp→List Rc→Option Pn→List Nat→β) (fr:Fr) (h:Heap) (pb:Nat) (hs:List Hp) (rs:List Rc) (pan:Option Pn) (ix:List Nat) (kk:DR→List Nat→β):β :=
 bif YY0 pan d.b then next fr h pb hs rs pan ix
 else match wanted all fr d.o with
  | .none=>kk (.stuck (some d.o)) ix
  | some t=>Bool.rec (bif d.w then (bif zn0 pan then Zt0 d.o undef fr (fun fr'=>next fr' h d.b (⟨pb,h,some d.i⟩::hs) rs pan ix) (fun r=>kk r ix) else kk (.stuck (some d.o)) ix)
   else Zt0 d.o undef fr (fun fr'=>next fr' h pb hs rs pan ix) (fun r=>kk r ix))
   (KD0 P E C Tb ih0 bot rec fr.fn fr.tm h d.o (fun r=>JL0 E d next fr h pb hs rs pan ix kk r)) t
def YA0 (all:List Oper) (l:List DOp):Fr→Heap→Nat→List Hp→List Rc→Option Pn→List Nat→(DR→List Nat→β)→β :=
 List.rec (motive:=fun _=>Fr→Heap→Nat→List Hp→List Rc→Option Pn→List Nat→(DR→List Nat→β)→β) (fun fr h pb hs rs pan ix kk=>kk (.done fr h (bif zn0 pan then ⟨pb,h,none⟩::hs else hs) rs pan) ix)
  (fun d _ ih fr h pb hs rs pan ix kk=>KB0 P E C Tb ih0 bot rec all d (fun fr h pb hs rs pan ix=>ih fr h pb hs rs pan ix kk) fr h pb hs rs pan ix kk) l
def zh1 (r:Rc) (e:Hp) (x:β):β :=
 match ZK0 C P E.glob r.tm e.h r.o with
  | .val v _=>need bot (r.v=v) x
  | .obl v _ φ=>need bot φ (need bot (r.v=v) x)
  | .skip _=>need bot (r.v=undef) x
  | .no=>bot
def zg1 (r:Rc) (e:Hp) (x:β):β :=
 match r.o.op with
 | .lookup t m key ok=>(match ev E.glob r.tm m with
  | some mv=>(match ev E.glob r.tm key with
   | some kv=>need bot (lookup P e.h t ok mv kv=some r.v) x
   | none=>bot)
  | none=>bot)
 | _=>zh1 P E C bot r e x
def Zs0 (r:Rc) (e:Hp) (x:β):β :=
 bif tb e.pb r.i then x
 else bif jp0 r.b e.nx then x
 else zg1 P E C bot r e x
def yu0 (r:Rc) (j:Option Nat) (hps:List Hp) (x:β):β:=List.rec x (fun e l ih=>bif yC0 j (some (List.len l)) then ih else Zs0 P E C bot r e ih) hps
def Zr0 (hps:List Hp) (rcs:List Rc) (x:β):List Nat→β:=List.rec (motive:=fun _=>List Nat→β) (fun _=>x) (fun r _ ih ix=>match ix with
 | []=>yu0 P E C bot r none hps (ih [])
 | j::ix=>yu0 P E C bot r (some j) hps (ih ix)) rcs
def JO0 (l:List DOp) (fn:FuncId) (k:Res→β) (r:DR) (ix:List Nat):β :=
 match r with
 | .stuck o=>k (.none fn o)
 | .done fr h hps rcs pan=>bif jo0 l then (match pan with
  | none=>k (.code .normal fr h)
  | some p=>k (.code (.panic p.v) (zG0 l fr) p.h))
  else Zr0 P E C bot hps rcs (match pan with
   | none=>k (.code .normal fr h)
   | some p=>k (.code (.panic p.v) (zG0 l fr) p.h)) ix
def KF0 (all:List Oper) (fr:Fr) (h:Heap) (k:Res→β):β :=
 match (bif P.follows .mixedOrders then QF0 E all else none) with
 | none=>k (.none fr.fn none)
 | some l=>YA0 P E C Tb ih0 bot rec all l fr h 0 [] [] none [] (fun r ix=>JO0 P E C bot l fr.fn k r ix)
def seqK (b:Code) (k:Res→β) (r:Res):β :=
 match r with
 | .code e fr h=>(match e with
  | .normal=>qS0 C Tb ih0 bot rec (.code b fr h) k
  | e=>k (.code e fr h))
 | r=>k r
def seqL (b:Code) (k:Res→β) (r:Res):β :=
 match r with
 | .code e fr h=>(match e with
  | .normal=>qS0 C Tb ih0 bot rec (.code b fr h) (fun r=>ZP0 C bot h.n (C.live fr.fn b) k r)
  | e=>k (.code e fr h))
 | r=>k r
def JP0 (lid:Nat) (fr:Fr) (k:Res→β) (r:Res):β :=
 match r with
 | .ret _ h=>(match h.get lid with
  | .loop st pending fn n tm ps a b d =>
   (match st with
   | .busy=>k (.none fr.fn .none)
   | _=>match pending with
    | .none=>k (.code .normal fr (h.set lid (.loop .exhausted pending fn n tm ps a b d)))
    | some c=>qS0 C Tb ih0 bot rec (.code c fr (h.set lid (.loop .exhausted pending fn n tm ps a b d))) k)
  | _=>k (.none fr.fn .none))
 | .panic v h=>k (.code (.panic v) fr h)
 | .none a b=>k (.none a b)
 | _=>k (.none fr.fn .none)
def GU0 (f:Operand) (params:Array Tmp) (assign body:Code) (fr:Fr) (h:Heap) (k:Res→β):β :=
 match ev E.glob fr.tm f with
 | .none=>k (.none fr.fn .none)
 | some fv=>match Zu0 fr h with
  | .none=>k (.none fr.fn .none)
  | some (d,marks,h1) =>
   match jL0 P (h1.new (.loop .ready .none fr.fn fr.n fr.tm params.toList assign body d)) fv [.func (.yield h1.n) [] []] with
   | .call g args h2=>bif E.shared g then qS0 C Tb ih0 bot rec (.call g args h2) (fun r=>JP0 C Tb ih0 bot rec h1.n { fr with marks:=marks } k r) else k (.none fr.fn .none)
   | _=>k (.none fr.fn .none)
def codeK (c:Code) (fr:Fr) (h:Heap) (k:Res→β):β :=
 match c with
 | .skip=>k (.code .normal fr h)
 | .region _ ops draw=>bif draw then KF0 P E C Tb ih0 bot rec ops.toList fr h k else js0 P E C Tb ih0 bot rec true ops.toList ops.toList fr h k
 | .seq a b=>qS0 C Tb ih0 bot rec (.code a fr h) (fun r=>seqK C Tb ih0 bot rec b k r)
 | .cond c a b=>(match ev E.glob fr.tm c with
  | some (.bool t)=>Bool.rec (qS0 C Tb ih0 bot rec (.code b fr h) k) (qS0 C Tb ih0 bot rec (.code a fr h) k) t
  | _=>k (.none fr.fn .none))
 | .block id b=>qS0 C Tb ih0 bot rec (.code b fr h) (fun r=>k (Jf0 id r))
 | .loop b=>qS0 C Tb ih0 bot rec (.code b fr h) (fun r=>ZP0 C bot h.n (C.live fr.fn b) (fun r=>seqL C Tb ih0 bot rec (.loop b) k r) r)
 | .rangeFunc f params assign body=>GU0 P E C Tb ih0 bot rec f params assign body fr h k
 | .exit id=>k (.code (.exit id) fr h)
 | .scope b=>qS0 C Tb ih0 bot rec (.code b fr h) k
 | .label _=>k (.code .normal fr h)
 | .goto _=>k (.none fr.fn .none)
 | .ret=>k (.code .ret fr h)
 | .refuse _=>k (.none fr.fn .none)
def Qd1 (f:FuncId) (fn:Func) (fr:Fr) (l:List (FuncId×List V)):Option V→Heap→(Res→β)→β :=
 List.rec (motive:=fun _=>Option V→Heap→(Res→β)→β) (fun p h k=>k (JQ0 P f fn fr p h))
  (fun d _ ih p h k=>qS0 C Tb ih0 bot rec (.dcall d.1 d.2 p h) (fun r=>match r with
   | .dret _ h'=>ih .none h' k
   | .none a b=>k (.none a b)
   | _=>k (.none f .none))) l
def YC0 (f:FuncId) (fn:Func) (fr:Fr) (p:Option V) (h:Heap) (k:Res→β):β :=
 match ZJ0 fr.marks h with
 | .none=>k (.none f .none)
 | some h'=>Qd1 P C Tb ih0 bot rec f fn fr fr.defers p h' k
def KK0 (f:FuncId) (fn:Func) (k:Res→β) (r:Res):β :=
 match r with
 | .code e fr h=>(match e with
  | .normal=>YC0 P C Tb ih0 bot rec f fn fr .none h k
  | .ret=>YC0 P C Tb ih0 bot rec f fn fr .none h k
  | .panic v=>YC0 P C Tb ih0 bot rec f fn fr (some v) h k
  | _=>k (.none f .none))
 | r=>k r
def Kt0 (f:FuncId) (args:List V) (h:Heap) (k:Res→β):β :=
 match P.funcs[f]? with
 | .none=>k (.none f .none)
 | some fn=>match fn.body with
  | .none=>(match YE0 P fn args h with
   | some (v,h')=>k (.ret v h')
   | .none=>k (.none f .none))
  | some body=>bif Nat.ble (List.len args) fn.ntmps then qS0 C Tb ih0 bot rec (.code body ⟨f,fn.ntmps,yg0 args 0 (zX0 (zZ0 fn.ntmps)),[],[],.none,.none,false⟩ h) (fun r=>KK0 P C Tb ih0 bot rec f fn k r) else k (.none f .none)
def JD0 (l:Nat) (body:Code) (k:Res→β) (r:Res):β :=
 match r with
 | .code e fr h=>(match e with
  | .normal=>(match h.get l with
   | .loop st pend fn n tm ps a b d=>(match st with
    | .ready=>qS0 C Tb ih0 bot rec (.code body fr (h.set l (.loop .busy pend fn n tm ps a b d))) k
    | _=>k (.none l .none))
   | _=>k (.none l .none))
  | _=>k (.none l .none))
 | r=>k r
def qz1 (l:Nat) (args:List V) (h:Heap) (k:Res→β):β :=
 match h.get l with
 | .loop _ _ fn n tm ps assign body _=>(match Jm0 ps n args tm with
  | .none=>k (.none l .none)
  | some tm'=>qS0 C Tb ih0 bot rec (.code assign ⟨fn,n,tm',[],[],some l,.none,false⟩ h) (fun r=>JD0 C Tb ih0 bot rec l body (fun r2=>k (endRound l r2)) r))
 | _=>k (.none l .none)
def KC0 (f:FuncId) (args:List V) (p:Option V) (h:Heap) (k:Res→β):β :=
 match P.funcs[f]? with
 | .none=>k (.none f .none)
 | some fn=>match fn.body with
  | some (.seq (.region _ ops false) rest)=>(match ops.toList with
   | []=>k (.none f .none)
   | o::l=>bif QO0 o&&qb0 fn.results.toList&&Nat.ble (List.len args) fn.ntmps then
    (match Fr.put ⟨f,fn.ntmps,yg0 args 0 (zX0 (zZ0 fn.ntmps)),[],[],.none,.none,false⟩ o.dst (Xz0 p) with
     | some fr1=>js0 P E C Tb ih0 bot rec false ops.toList l fr1 h (fun r=>seqK C Tb ih0 bot rec rest (fun r2=>k (YD0 f r2)) r)
     | .none=>k (.none f .none))
    else k (.none f .none))
  | _=>k (.none f .none)
def stepK (t:Task) (k:Res→β):β :=
 match t with
 | .code c fr h=>codeK P E C Tb ih0 bot rec c fr h k
 | .call f args h=>Kt0 P C Tb ih0 bot rec f args h k
 | .yield l args h=>qz1 C Tb ih0 bot rec l args h k
 | .dcall f args p h=>KC0 P E C Tb ih0 bot rec f args p h k
end defs
def evT (P:Program) (E:Env) (C:Cf) (Tb:Task→Option Ent) (ih0:Task→Res) {β:Type} (bot:β) (m:Nat):Task→(Res→β)→β :=
 Nat.rec (motive:=fun _=>Task→(Res→β)→β) (fun _ k=>k (.none 0 none)) (fun _ rec=>stepK P E C Tb ih0 bot rec) m
section ok
variable {P:Program} {E:Env} {C:Cf} {Tb:Task→Option Ent} {ih0:Task→Res} {β:Type} {bot:β} {rec:Task→(Res→β)→β} {ih:Task→Res}
theorem YT0 (hT:jE0 ih0 Tb) (t:Task) (k:Res→β):Nr bot k (oK Tb ih0 bot t k) (ih0 t):=by
 unfold oK
 split
 ·rename_i e he
  have hx:=hT t e he
  obtain ⟨α,ε,x,s,R,Q⟩:=e
  unfold Ent.run
  unfold Ent.res at hx
  cases x with
  | no=>exact .inl rfl
  | ok a =>
   rcases hx with h | h
   ·cases h
   ·refine .inr ?_
    simp only at h
    rw [← h]
    have key:∀ (s:List (α→Bool)) (l:List Bool),(List.rec (motive:=fun _=>List Bool→β) (fun l=>k (R l a)) (fun s _ ih l=>Bool.rec (ih (l++[false])) (ih (l++[true])) (s a)) s l:β)=k (R (l++s.map (· a)) a):=by
     intro s
     induction s with
     | nil=>intro l;rw [List.map_nil,List.append_nil]
     | cons q s IH =>
      intro l
      rw [List.map_cons,show l++q a::s.map (· a)=(l++[q a])++s.map (· a) by simp,← IH]
      cases hq:q a <;> simp only [hq]
    exact key s []
  | er n=>rcases hx with h | h;cases h;exact .inr (by simp only at h;rw [← h])
 ·exact .self
variable (hT:jE0 ih0 Tb) (hr:∀ t k,Nr bot k (rec t k) (ih t))
 include hT hr
theorem JZ1 (f:FuncId) (args:List V) (h:Heap) (k:Res→β):Nr bot k (KX0 C Tb ih0 bot rec f args h k) (YG0 ih0 ih f args h):=by
 unfold KX0
 refine .needs fun q=>?_
 have hh:=KU0 _ q
 have e:=jT1 _ _ _ hh
 rw [e] at hh ⊢
 rw [jj1 (f:=fun r=>rnH C h (ql0 (qY0 h 60 (qq0 (qp0 8) args) [])) r) (g:=fun r=>rnO (ql0 (qY0 h 60 (qq0 (qp0 8) args) [])) (h.get r)) fun r hr=>GY0 (hh r hr)]
 unfold YG0
 generalize qY0 h 60 (qq0 (qp0 8) args) []=ρ
 generalize qc0 (rnV (ql0 ρ) 8) args=o1
 generalize qc0 (fun r=>rnO (ql0 ρ) (h.get r)) ρ=o2
 generalize okR h.n ρ=o3
 cases o1 with
 | none=>exact hr _ _
 | some as =>
  cases o2 with
  | none=>exact hr _ _
  | some os =>
   cases o3 with
   | false=>exact hr _ _
   | true=>exact (YT0 hT _ _).then (Gv1 h ρ k _)
 omit hr in theorem frameLK_ok (ks:Option (List Nat×List Nat×List Nat)) (b:Code) (fr:Fr) (h:Heap) (k:Res→β):Nr bot k (JX0 C Tb ih0 bot ks b fr h k) (jW0 ih0 ks (ZL0 h ks fr) b fr h):=by
  unfold JX0 jW0 ZL0
  cases ks with
  | none=>exact YT0 hT _ _
  | some ks =>
   refine .needs fun q=>?_
   have hh:=ZB0 q
   simp only
   rw [XJ0 hh,Gl0 hh]
   generalize Gn0 h (qY0 h 80 (qc1 h ks fr) [])=ρ
   have hd:=YT0 (bot:=bot) hT (.code (.loop b) (fr.on (qv0 fr ks.1)) (zl0 h)) k
   generalize qc0 (rnL (ql0 ρ)) (qv0 fr ks.1)=o1
   generalize QR0 h ρ ρ=o2
   cases Nat.beq (List.len ρ) h.n with
   | true=>exact hd
   | false =>
    cases o1 with
    | none=>exact hd
    | some L' =>
     cases o2 with
     | none=>exact hd
     | some os =>
      simp only [cond_false]
      cases (okR h.n ρ&&(qb0 fr.marks&&qb0 fr.defers&&qJ0 fr.round)) with
      | false=>exact hd
      | true=>exact (YT0 hT _ _).then (Gu1 h ρ ks.2.1 k _)
theorem zv0 (t:Task) (k:Res→β):Nr bot k (qS0 C Tb ih0 bot rec t k) (qk0 C ih0 ih t):=by
 cases t with
 | call f args h =>
  unfold qS0 qk0
  simp only
  cases C.inl f with
  | true=>exact hr _ _
  | false=>exact JZ1 hT hr f (C.na f args) h k
 | code c fr h =>
  have key:∀ b,Nr bot k (bif C.unr fr.fn b h.n then rec (.code (.loop b) (wkF (C.live fr.fn b) fr) h) k else bif C.lf fr.fn then JX0 C Tb ih0 bot (C.live fr.fn b) b fr h k else oK Tb ih0 bot (.code (.loop b) (wkF (C.live fr.fn b) fr) (zl0 h)) k) (bif C.unr fr.fn b h.n then ih (.code (.loop b) (wkF (C.live fr.fn b) fr) h) else bif C.lf fr.fn then jW0 ih0 (C.live fr.fn b) (ZL0 h (C.live fr.fn b) fr) b fr h else ih0 (.code (.loop b) (wkF (C.live fr.fn b) fr) (zl0 h))):=fun b=>by
   cases C.unr fr.fn b h.n with
   | true=>exact hr _ _
   | false =>
    cases C.lf fr.fn with
    | true=>exact frameLK_ok hT _ _ _ _ _
    | false=>exact YT0 hT _ _
  cases c <;> first | exact hr _ _ | exact key _
 | _=>exact hr _ _
 omit hT hr in theorem goK_ok {o:Oper} {fr:Fr} {next:Fr→Heap→β} {nextR:Fr→Heap→Res} {v:V} {h:Heap} {k:Res→β} (hn:∀ fr h,Nr bot k (next fr h) (nextR fr h)):Nr bot k (goK o fr next v h k) (zM0 o fr nextR v h):=by
  unfold goK zM0
  rw [qs1]
  cases fr.put o.dst v with
  | none=>exact .self
  | some fr'=>exact hn fr' h
 omit hT hr in theorem afterK_ok {o:Oper} {fr:Fr} {next:Fr→Heap→β} {nextR:Fr→Heap→Res} {k:Res→β} (hn:∀ fr h,Nr bot k (next fr h) (nextR fr h)) (r:Res):Nr bot k (Jw0 o fr next k r) (Yn0 o fr nextR (fun v h=>.code (.panic v) fr h) r):=by
  cases r with
  | ret v h=>exact goK_ok hn
  | _=>exact .self
theorem ZP1 (f:FuncId) (args:List V) (h:Heap) (k:Res→β):Nr bot k (Ku0 E C Tb ih0 bot rec f args h k) (Yw0 E (qk0 C ih0 ih) f args h):=by
 unfold Ku0 Yw0
 refine (jO1 (C:=C) (bot:=bot) (d:=depth) (by decide) args h _).then ?_
 generalize qy0 (pub [] depth) args h=o1
 cases o1 with
 | none=>exact .self
 | some p =>
  obtain ⟨gs,h1⟩:=p
  simp only
  generalize E.prim f gs=o2
  cases o2 with
  | some v=>exact .self
  | none=>exact (zv0 hT hr _ _).then .self
theorem ZS1 (f:FuncId) (args:List V) (h:Heap) (k:Res→β):Nr bot k (Kw0 E C Tb ih0 bot rec f args h k) (yj0 E (qk0 C ih0 ih) f args h):=by
 unfold Kw0 yj0
 cases qA0 (ground 3) args with
 | false=>exact .self
 | true =>
  simp only [cond_true]
  generalize E.prim f args=o2
  cases o2 with
  | some v=>exact .self
  | none=>exact (zv0 hT hr _ _).then .self
theorem qY1 (lit:Bool) (f:FuncId) (args:List V) (h:Heap) (k:Res→β):Nr bot k (JH0 E C Tb ih0 bot rec lit f args h k) (zV0 E (qk0 C ih0 ih) lit f args h):=by
 unfold JH0 zV0
 cases E.shared f with
 | true=>exact (zv0 hT hr _ _).then .self
 | false =>
  cases lit with
  | true=>exact ZS1 hT hr f args h k
  | false=>exact ZP1 hT hr f args h k
theorem rsK_ok {o:Oper} {fr:Fr} {next:Fr→Heap→β} {nextR:Fr→Heap→Res} {k:Res→β} (hn:∀ fr h,Nr bot k (next fr h) (nextR fr h)) (r:Rs):Nr bot k (rsK E C Tb ih0 bot rec o fr next k r) (qM0 E (qk0 C ih0 ih) false o fr nextR (fun v h=>.code (.panic v) fr h) r):=by
 cases r with
 | val v h=>exact goK_ok hn
 | skip h=>exact goK_ok hn
 | call f args h=>exact (qY1 hT hr false f args h _).then (afterK_ok hn _)
 | yield l args h=>exact (zv0 (C:=C) hT hr (.yield l args h) (fun r=>Jw0 o fr next k r)).then (afterK_ok hn _)
 | panic v h=>exact .self
 | defer f args h =>
  change Nr bot k (match fr.round with
   | some _=>k (.none fr.fn (some o))
   | .none=>match fr.marks with
    | []=>goK o { fr with defers:=(f,args)::fr.defers } next undef h k
    | _=>k (.none fr.fn (some o))) (QE0 o fr nextR f args h)
  unfold QE0
  generalize fr.round=o1
  cases o1 with
  | some _=>exact .self
  | none =>
   simp only
   cases hm:fr.marks with
   | nil=>exact goK_ok hn
   | cons a b=>exact .self
 | recover h=>exact .self
 | stuck=>exact .self
theorem Gj1 {cn:Bool} {o:Oper} {fr:Fr} {next:Fr→Heap→β} {nextR:Fr→Heap→Res} {h:Heap} {k:Res→β} (hn:∀ fr h,Nr bot k (next fr h) (nextR fr h)):Nr bot k (opK' P E C Tb ih0 bot rec cn o fr next h k) (qM0 E (qk0 C ih0 ih) false o fr nextR (fun v h=>.code (.panic v) fr h) (qs0 C cn (E.lit fr.fn) P E.glob fr.tm h o)):=by
 unfold opK'
 have hok:=jC1 (P:=P) (C:=C) cn (E.lit fr.fn) E.glob fr.tm h o
 generalize ja0 C cn (E.lit fr.fn) P E.glob fr.tm h o=r at hok
 cases r with
 | val v h1 =>
  rw [show qs0 C cn (E.lit fr.fn) P E.glob fr.tm h o=.val v h1 from hok]
  exact goK_ok hn
 | obl v h1 φ =>
  refine .need fun hφ=>?_
  rw [show qs0 C cn (E.lit fr.fn) P E.glob fr.tm h o=.val v h1 from hok hφ]
  exact goK_ok hn
 | skip h1 =>
  rw [show qs0 C cn (E.lit fr.fn) P E.glob fr.tm h o=.skip h1 from hok]
  exact goK_ok hn
 | no=>exact rsK_ok hT hr hn _
 omit hT hr in theorem lookup_op {o:Oper} {lit:Bool} {tm:T V} {h:Heap} {t:TypeId} {m key:Operand} {ok cn:Bool} (ho:o.op=.lookup t m key ok):qs0 C cn lit P E.glob tm h o=o2 E.glob tm h m key (lookup P h t ok):=by
  have e:qm0 lit P E.glob tm h o=o2 E.glob tm h m key (lookup P h t ok):=by
   rw [zi0 (fun _ _ _ e=>by rw [ho] at e;cases e)]
   unfold qC0;rw [ho];rfl
  cases cn with
  | false=>exact e
  | true =>
   change opC P C E.glob tm o (qm0 lit P E.glob tm h o)=_
   unfold opC;rw [ho];exact e
 omit hT hr in theorem storeK_ok {cn:Bool} {o:Oper} {fr:Fr} {next:Fr→Heap→β} {nextR:Fr→Heap→Res} {h:Heap} {k:Res→β} {d:β} {ihr:Task→Res} (hn:∀ fr h,Nr bot k (next fr h) (nextR fr h)) (hd:Nr bot k d (qM0 E ihr false o fr nextR (fun v h=>.code (.panic v) fr h) (qs0 C cn (E.lit fr.fn) P E.glob fr.tm h o))):Nr bot k (qt1 P E C bot o fr next h k d) (qM0 E ihr false o fr nextR (fun v h=>.code (.panic v) fr h) (qs0 C cn (E.lit fr.fn) P E.glob fr.tm h o)):=by
  unfold qt1
  split
  ·rename_i t a x ho
   split
   ·rename_i r ver off hev
    cases symR C h r with
    | false=>exact hd
    | true =>
     simp only [cond_true]
     split
     ·rename_i v hx
      split
      ·rename_i ver' ty sz pub cap es hg
       refine .need fun hv=>.need fun hs=>?_
       have e0:qm0 (E.lit fr.fn) P E.glob fr.tm h o=yn0 P E.glob fr.tm h t a x:=by
        rw [zi0 (fun _ _ _ e=>by rw [ho] at e;cases e)]
        unfold qC0;rw [ho];rfl
       have e1:qs0 C cn (E.lit fr.fn) P E.glob fr.tm h o=.skip (h.set r (.row ver ty sz pub cap (qT0 sz es off v))):=by
        have e2:qs0 C cn (E.lit fr.fn) P E.glob fr.tm h o=qm0 (E.lit fr.fn) P E.glob fr.tm h o:=by
         cases cn with
         | false=>rfl
         | true =>
          change opC P C E.glob fr.tm o (qm0 (E.lit fr.fn) P E.glob fr.tm h o)=_
          unfold opC;rw [ho]
        rw [e2,e0]
        unfold yn0
        rw [hev]
        simp only [hx]
        rw [zK2 hg hv hs]
       rw [e1]
       exact goK_ok hn
      ·exact hd
     ·exact hd
   ·exact hd
  ·exact hd
 omit hT hr in theorem shiftK_ok {cn:Bool} {o:Oper} {fr:Fr} {next:Fr→Heap→β} {nextR:Fr→Heap→Res} {h:Heap} {k:Res→β} {d:β} {ihr:Task→Res} (hn:∀ fr h,Nr bot k (next fr h) (nextR fr h)) (hd:Nr bot k d (qM0 E ihr false o fr nextR (fun v h=>.code (.panic v) fr h) (qs0 C cn (E.lit fr.fn) P E.glob fr.tm h o))):Nr bot k (qo1 E C bot o fr next h k d) (qM0 E ihr false o fr nextR (fun v h=>.code (.panic v) fr h) (qs0 C cn (E.lit fr.fn) P E.glob fr.tm h o)):=by
  unfold qo1
  split
  ·rename_i op t x y c ho
   cases hc:(C.shf fr.fn&&isShr op) with
   | false=>exact hd
   | true =>
    simp only [cond_true]
    split
    ·rename_i kk a hx
     split
     ·rename_i kb b hy
      refine .need fun hφ=>?_
      have hop:op=.shr:=by
       simp only [Bool.and_eq_true] at hc
       revert hc
       cases op <;> intro hc <;> first | rfl | cases hc.2
      subst hop
      have e0:qm0 (E.lit fr.fn) P E.glob fr.tm h o=o2 E.glob fr.tm h x y (binOp P h t (qP0 x||qP0 y) .shr):=by
       rw [zi0 (fun _ _ _ e=>by rw [ho] at e;cases e)]
       unfold qC0;rw [ho];rfl
      have e2:qs0 C cn (E.lit fr.fn) P E.glob fr.tm h o=qm0 (E.lit fr.fn) P E.glob fr.tm h o:=by
       cases cn with
       | false=>rfl
       | true =>
        change opC P C E.glob fr.tm o (qm0 (E.lit fr.fn) P E.glob fr.tm h o)=_
        unfold opC;rw [ho]
      have e1:qs0 C cn (E.lit fr.fn) P E.glob fr.tm h o=.val (.int kk (a/2^b.toNat)) h:=by
       rw [e2,e0,ZW0,hx]
       simp only [hy]
       change qj0 h (bif jm0 .shr||zh0 kk kb then qF0 .shr kk a b else none)=_
       change qj0 h (qF0 .shr kk a b)=_
       rw [hφ];rfl
      rw [e1]
      exact goK_ok hn
     ·exact hd
    ·exact hd
  ·exact hd
 omit hT hr in theorem appK_ok {cn:Bool} {o:Oper} {fr:Fr} {next:Fr→Heap→β} {nextR:Fr→Heap→Res} {h:Heap} {k:Res→β} {d:β} {ihr:Task→Res} (hn:∀ fr h,Nr bot k (next fr h) (nextR fr h)) (hd:Nr bot k d (qM0 E ihr false o fr nextR (fun v h=>.code (.panic v) fr h) (qs0 C cn (E.lit fr.fn) P E.glob fr.tm h o))):Nr bot k (appK P E C o fr next h k d) (qM0 E ihr false o fr nextR (fun v h=>.code (.panic v) fr h) (qs0 C cn (E.lit fr.fn) P E.glob fr.tm h o)):=by
  unfold appK
  split
  ·rename_i c ho
   split
   ·rename_i b hb
    split
    ·split
     ·rename_i x y hm
      split
      ·rename_i t u hty
       split
       ·rename_i sz es
        split
        ·rename_i e he
         cases hc:(C.apf fr.fn&&zo0 P u&&XK0 x&&Nat.beq sz (size P e)&&!(Nat.beq (size P e) 0)) with
         | false=>exact hd
         | true =>
          simp only [cond_true]
          cases hes:qb0 es with
          | false=>exact hd
          | true =>
           have hes:es=[]:=by cases es with
            | nil=>rfl
            | cons _ _=>cases hes
           subst hes
           simp only [Bool.and_eq_true,Bool.not_eq_true',Nat.beq_eq] at hc
           obtain ⟨⟨⟨⟨_,c1⟩,c2⟩,c3⟩,c4⟩:=hc
           subst c3
           have e0:qm0 (E.lit fr.fn) P E.glob fr.tm h o=zw0 P E.glob fr.tm h c:=by
            rw [zi0 (fun _ _ _ e=>by rw [ho] at e;cases e)]
            unfold qC0;rw [ho];rfl
           have e2:qs0 C cn (E.lit fr.fn) P E.glob fr.tm h o=qm0 (E.lit fr.fn) P E.glob fr.tm h o:=by
            cases cn with
            | false=>rfl
            | true =>
             change opC P C E.glob fr.tm o (qm0 (E.lit fr.fn) P E.glob fr.tm h o)=_
             unfold opC;rw [ho]
           have e3:zw0 P E.glob fr.tm h c=.val x h:=by
            rw [Xw0,hm]
            simp only [hb,hty]
            change (bif zo0 P u then append P t h x (.osl (size P e) []) else _)=_
            rw [c1]
            simp only [cond_true]
            have hn0:newS P h (size P e) (.osl (size P e) [])=some []:=by
             change (bif Nat.beq (size P e) (size P e) then some [] else none)=_
             rw [show Nat.beq (size P e) (size P e)=true by simp];rfl
            rw [Kl0 he (GC0 hn0) c4]
            revert c2
            cases x <;> intro c2 <;> first | rfl | cases c2
           rw [e2,e0,e3]
           exact goK_ok hn
        ·exact hd
       ·exact hd
      ·exact hd
     ·exact hd
    ·exact hd
   ·exact hd
  ·exact hd
 omit hT hr in theorem opE_cn {cn:Bool} {o:Oper} {fr:Fr} {h:Heap} (hl:∀ r,opC P C E.glob fr.tm o r=r):qs0 C cn (E.lit fr.fn) P E.glob fr.tm h o=qm0 (E.lit fr.fn) P E.glob fr.tm h o:=by
  cases cn with
  | false=>rfl
  | true=>exact hl _
 omit hT hr in theorem orK_ok {cn:Bool} {o:Oper} {fr:Fr} {next:Fr→Heap→β} {nextR:Fr→Heap→Res} {h:Heap} {k:Res→β} {d:β} {ihr:Task→Res} (hn:∀ fr h,Nr bot k (next fr h) (nextR fr h)) (hd:Nr bot k d (qM0 E ihr false o fr nextR (fun v h=>.code (.panic v) fr h) (qs0 C cn (E.lit fr.fn) P E.glob fr.tm h o))):Nr bot k (orK E C bot o fr next h k d) (qM0 E ihr false o fr nextR (fun v h=>.code (.panic v) fr h) (qs0 C cn (E.lit fr.fn) P E.glob fr.tm h o)):=by
  unfold orK
  split
  ·rename_i op t x y c ho
   cases hc:(C.nxt fr.fn&&isOr op) with
   | false=>exact hd
   | true =>
    simp only [cond_true]
    split
    ·rename_i kk a hx
     split
     ·rename_i kb b hy
      refine .need fun ⟨hk,hφ⟩=>?_
      subst hk
      have hop:op=.or:=by
       simp only [Bool.and_eq_true] at hc
       revert hc
       cases op <;> intro hc <;> first | rfl | cases hc.2
      subst hop
      have e0:qm0 (E.lit fr.fn) P E.glob fr.tm h o=o2 E.glob fr.tm h x y (binOp P h t (qP0 x||qP0 y) .or):=by
       rw [zi0 (fun _ _ _ e=>by rw [ho] at e;cases e)]
       unfold qC0;rw [ho];rfl
      have e2:qs0 C cn (E.lit fr.fn) P E.glob fr.tm h o=qm0 (E.lit fr.fn) P E.glob fr.tm h o:=opE_cn fun r=>by unfold opC;rw [ho]
      have e1:qs0 C cn (E.lit fr.fn) P E.glob fr.tm h o=.val (.int kk (orN a b)) h:=by
       rw [e2,e0,ZW0,hx]
       simp only [hy]
       change qj0 h (bif jm0 .or||zh0 kk kk then qF0 .or kk a b else none)=_
       rw [show zh0 kk kk=true by cases kk <;> rfl]
       change qj0 h (qF0 .or kk a b)=_
       rw [hφ];rfl
      rw [e1]
      exact goK_ok hn
     ·exact hd
    ·exact hd
  ·exact hd
 omit hT hr in theorem nextK_ok {cn:Bool} {o:Oper} {fr:Fr} {next:Fr→Heap→β} {nextR:Fr→Heap→Res} {h:Heap} {k:Res→β} {d:β} {ihr:Task→Res} (hn:∀ fr h,Nr bot k (next fr h) (nextR fr h)) (hd:Nr bot k d (qM0 E ihr false o fr nextR (fun v h=>.code (.panic v) fr h) (qs0 C cn (E.lit fr.fn) P E.glob fr.tm h o))):Nr bot k (GD0 E C o fr next h k d) (qM0 E ihr false o fr nextR (fun v h=>.code (.panic v) fr h) (qs0 C cn (E.lit fr.fn) P E.glob fr.tm h o)):=by
  unfold GD0
  split
  ·rename_i it isString ho
   cases hc:(C.nxt fr.fn&&isString) with
   | false=>exact hd
   | true =>
    have hs:isString=true:=by simp only [Bool.and_eq_true] at hc;exact hc.2
    subst hs
    simp only [cond_true]
    split
    ·rename_i r hev
     split
     ·rename_i s pos hget
      have e0:qm0 (E.lit fr.fn) P E.glob fr.tm h o=jr0 E.glob fr.tm h it true:=by
       rw [zi0 (fun _ _ _ e=>by rw [ho] at e;cases e)]
       unfold qC0;rw [ho];rfl
      have e2:qs0 C cn (E.lit fr.fn) P E.glob fr.tm h o=qm0 (E.lit fr.fn) P E.glob fr.tm h o:=opE_cn fun r=>by unfold opC;rw [ho]
      have hN:jr0 E.glob fr.tm h it true=bif Nat.blt pos (List.len s) then .val (.tup [.bool true,.int .i64 (Int.ofNat pos),.int .i32 (Int.ofNat (Utf8.decode ⟨⟨s⟩⟩ pos).1)]) (h.set r (.siter s (Nat.add pos (Utf8.decode ⟨⟨s⟩⟩ pos).2))) else .val (.tup [.bool false]) h:=by
       unfold jr0
       simp only [cond_true,hev,hget]
      by_cases hlt:pos<s.length
      ·have e1:Nat.blt pos (List.len s)=true:=by rw [Nat.blt_eq,List.len_eq];exact hlt
       rw [decide_eq_true hlt,cond_true,e2,e0,hN,e1]
       exact goK_ok hn
      ·have e1:Nat.blt pos (List.len s)=false:=by
        rw [Bool.eq_false_iff];intro q;rw [Nat.blt_eq,List.len_eq] at q;exact hlt q
       rw [decide_eq_false hlt,cond_false,e2,e0,hN,e1]
       exact goK_ok hn
     ·exact hd
    ·exact hd
  ·exact hd
 omit hT hr in theorem remK_ok {cn:Bool} {o:Oper} {fr:Fr} {next:Fr→Heap→β} {nextR:Fr→Heap→Res} {h:Heap} {k:Res→β} {d:β} {ihr:Task→Res} (hn:∀ fr h,Nr bot k (next fr h) (nextR fr h)) (hd:Nr bot k d (qM0 E ihr false o fr nextR (fun v h=>.code (.panic v) fr h) (qs0 C cn (E.lit fr.fn) P E.glob fr.tm h o))):Nr bot k (remK P E C bot cn o fr next h k d) (qM0 E ihr false o fr nextR (fun v h=>.code (.panic v) fr h) (qs0 C cn (E.lit fr.fn) P E.glob fr.tm h o)):=by
  unfold remK
  split
  ·cases (C.spl fr.fn&&isRem _) with
   | false=>exact hd
   | true =>
    simp only [cond_true]
    have hok:=jC1 (P:=P) (C:=C) cn (E.lit fr.fn) E.glob fr.tm h o
    split
    ·rename_i v h1 φ hs
     rw [hs] at hok
     split
     ·rename_i kk a
      split
      ·split
       ·rename_i m _
        refine .need fun hφ=>?_
        rw [show qs0 C cn (E.lit fr.fn) P E.glob fr.tm h o=.val (.int kk a) h1 from hok hφ]
        have key:∀ m,Nr bot k (qq1 bot kk a (fun v=>goK o fr next v h1 k) m) (qM0 E ihr false o fr nextR (fun v h=>.code (.panic v) fr h) (.val (.int kk a) h1)):=fun m=>by
         induction m with
         | zero=>exact .inl rfl
         | succ j IH =>
          change Nr bot k (bif decide (a=(j:Int)) then goK o fr next (.int kk (j:Int)) h1 k else qq1 bot kk a (fun v=>goK o fr next v h1 k) j) _
          by_cases e:a=(j:Int)
          ·rw [decide_eq_true e,cond_true,← e];exact goK_ok hn
          ·rw [decide_eq_false e,cond_false];exact IH
        exact key m
       ·exact hd
      ·exact hd
     ·exact hd
    ·exact hd
  ·exact hd
theorem jA1 {cn:Bool} {o:Oper} {fr:Fr} {next:Fr→Heap→β} {nextR:Fr→Heap→Res} {h:Heap} {k:Res→β} (hn:∀ fr h,Nr bot k (next fr h) (nextR fr h)):Nr bot k (opK P E C Tb ih0 bot rec cn o fr next h k) (qM0 E (qk0 C ih0 ih) false o fr nextR (fun v h=>.code (.panic v) fr h) (qs0 C cn (E.lit fr.fn) P E.glob fr.tm h o)):=by
 unfold opK
 split
 ·rename_i t m key ok ho
  rw [lookup_op (P:=P) (E:=E) (cn:=cn) ho,ZW0]
  generalize AM.ev E.glob fr.tm m=o1
  cases o1 with
  | none=>exact .self
  | some mv =>
   simp only
   generalize AM.ev E.glob fr.tm key=o2
   cases o2 with
   | none=>exact .self
   | some kv =>
    simp only
    rw [jc1]
    cases lookup P h t ok mv kv with
    | none=>exact .self
    | some v=>exact goK_ok hn
 ·exact shiftK_ok hn (storeK_ok hn (appK_ok hn (orK_ok hn (nextK_ok hn (remK_ok hn (Gj1 hT hr hn))))))
theorem Gs1 (all l:List Oper):∀ (fr:Fr) (h:Heap) (k:Res→β),Nr bot k (js0 P E C Tb ih0 bot rec false all l fr h k) (Zc0 P E (qk0 C ih0 ih) all l fr h):=by
 induction l with
 | nil=>intro fr h k;exact .self
 | cons o l IH =>
  intro fr h k
  change Nr bot k (match wanted all fr o with
   | none=>k (.none fr.fn (some o))
   | some b=>Bool.rec (goK o fr (fun fr h=>js0 P E C Tb ih0 bot rec false all l fr h k) undef h k) (opK P E C Tb ih0 bot rec false o fr (fun fr h=>js0 P E C Tb ih0 bot rec false all l fr h k) h k) b) (Je0 P E (qk0 C ih0 ih) all o (Zc0 P E (qk0 C ih0 ih) all l) fr h)
  unfold Je0
  cases wanted all fr o with
  | none=>exact .self
  | some b =>
   cases b with
   | false=>exact goK_ok fun fr h=>IH fr h k
   | true=>exact jA1 (cn:=false) hT hr fun fr h=>IH fr h k
 omit hT hr in theorem preK_ok {o:Oper} {fr:Fr} {h:Heap} {kk:Fr→Heap→β} {σ:Type} {k:σ→β} {f:Fr→Heap→σ} (hk:∀ fr h,Nr bot k (kk fr h) (f fr h)):Nr bot k (preK C bot o fr h kk) (f (zr0 C fr h o).1 (zr0 C fr h o).2):=by
  unfold preK zr0
  cases o.op with
  | store t a v =>
   cases v with
   | tmp i =>
    simp only
    cases C.ps fr.fn t with
    | none=>exact hk fr h
    | some b =>
     simp only
     unfold preF
     cases Nat.blt i fr.n with
     | false=>exact hk fr h
     | true =>
      simp only [cond_true]
      cases yU0 (fr.at' i) with
      | none=>exact hk fr h
      | some v =>
       simp only
       unfold preV
       cases b with
       | false=>exact hk _ _
       | true =>
        refine (GT0 (C:=C) (bot:=bot) (d:=38) (by decide) h v _).then ?_
        change Nr bot k (match AM.pub [] depth h v with
         | some p=>kk (fr.st i (C.nz fr.fn t p.1)) p.2
         | none=>kk fr h) _
        simp only
        cases pub [] depth h v with
        | none=>exact hk fr h
        | some p=>obtain ⟨v',h'⟩:=p;exact hk _ _
   | _=>exact hk fr h
  | _=>exact hk fr h
 omit hT hr in theorem xpK_ok {fr:Fr} {h:Heap} {o:Oper} {kk:Heap→β} {σ:Type} {k:σ→β} {F:Heap→σ} (hk:∀ h,Nr bot k (kk h) (F h)):Nr bot k (xpK E C bot fr h o kk) (F (xpA C E.glob fr h o)):=by
  unfold xpK xpA
  cases ym0 o with
  | true =>
   simp only [cond_true]
   cases Jz0 E.glob fr.tm o with
   | none=>exact hk h
   | some r=>exact GX0 (F:=fun h=>F (xpH h r)) fr.fn h r fun h=>by rw [yk0];exact hk (xpH h r)
  | false=>exact hk h
 omit hT hr in theorem goK_snap {o:Oper} {fr:Fr} {next:Fr→Heap→β} {nextR:Fr→Heap→Res} {v:V} {h1 h2:Heap} {k:Res→β} (hn:∀ fr h,Nr bot k (next fr h) (nextR fr h)) {sn:Fr→Heap→Heap} (hs:∀ fr',fr.put o.dst v=some fr'→sn fr' h1=h2):Nr bot k (goK o fr next v h2 k) (zM0 o fr (fun fr' h'=>nextR fr' (sn fr' h')) v h1):=by
  unfold goK zM0
  rw [qs1]
  cases hp:fr.put o.dst v with
  | none=>exact .self
  | some fr' =>
   change Nr bot k (next fr' h2) (nextR fr' (sn fr' h1))
   rw [hs fr' hp];exact hn fr' h2
 omit hT hr in theorem snap_set {h:Heap} {r ver ty sz pb:Nat} {l:List V} {x:V} (hc:C.sn ty=true):Jn0 C (h.set r (.row ver ty sz pb none (l++[x]))) r=(h.set r (.row ver ty sz pb none (l++[x]))).set r (.rowS ver ty sz pb l x):=by
  unfold Jn0
  rw [Heap.get_set,if_pos rfl]
  simp only [hc,qJ0,Bool.and_self,cond_true,yU1]
 omit hT hr in theorem cellsAt_last {l:List V} {x:V} {sz j k:Nat} (hj:j<sz):qE0 sz (l++[x]) (l.length*sz+j) k=qE0 sz [x] j k:=by
  have a1:(l.length*sz+j)/sz=l.length:=by rw [Nat.mul_comm,Nat.mul_add_div (by omega),Nat.div_eq_of_lt hj];rfl
  have a2:(l.length*sz+j)%sz=j:=by rw [Nat.mul_comm,Nat.mul_add_mod,Nat.mod_eq_of_lt hj]
  have a3:j/sz=0:=Nat.div_eq_of_lt hj
  have a4:j%sz=j:=Nat.mod_eq_of_lt hj
  unfold qE0
  cases hb:Nat.beq sz 1 with
  | true =>
   rw [Nat.beq_eq] at hb
   subst hb
   obtain rfl:j=0:=by omega
   simp only [cond_true,List.at_eq]
   rw [Nat.mul_one,Nat.add_zero,Yp0];rfl
  | false =>
   simp only [cond_false]
   rw [show Nat.div (l.length*sz+j) sz=l.length from a1,show Nat.mod (l.length*sz+j) sz=j from a2,show Nat.div j sz=0 from a3,show Nat.mod j sz=j from a4,List.at_eq,List.at_eq,Yp0]
   rfl
 omit hT hr in theorem load_last {h:Heap} {r ver ty sz pb j:Nat} {l:List V} {x:V} {t:TypeId} (hg:h.get r=.rowS ver ty sz pb l x) (hj:j<sz):load P h t (.ptr r ver (l.length*sz+j))=load P (hp [.row 0 ty sz 0 none [x]]) t (.ptr 0 0 j):=by
  unfold load
  simp only [hg]
  rw [show Nat.beq ver ver=true by simp,show (hp [Obj.row 0 ty sz 0 none [x]]).get 0=.row 0 ty sz 0 none [x] by rfl]
  simp only [cond_true]
  rw [cellsAt_last hj]
  rfl
 omit hT hr in theorem store_last {h:Heap} {r ver ty sz pb j:Nat} {l:List V} {x x' v:V} {t:TypeId} (hg:h.get r=.rowS ver ty sz pb l x) (hj:j<sz) (hf:v.flat=true) (hl:List.len v.cells=size P t) (h1:1≤size P t) (hp:pb≤l.length) (hx:yo0 x j v.cells=some x'):store P h t (.ptr r ver (l.length*sz+j)) v=some (h.set r (.rowS ver ty sz pb l x')):=by
  have a1:Nat.div (l.length*sz+j) sz=l.length:=by
   change (l.length*sz+j)/sz=_
   rw [Nat.mul_comm,Nat.mul_add_div (by omega),Nat.div_eq_of_lt hj];rfl
  have a2:Nat.mod (l.length*sz+j) sz=j:=by
   change (l.length*sz+j)%sz=_
   rw [Nat.mul_comm,Nat.mul_add_mod,Nat.mod_eq_of_lt hj]
  unfold store
  simp only [hg]
  rw [a1,a2]
  have e0:(Nat.beq ver ver&&v.flat&&Nat.beq (List.len v.cells) (size P t)&&Nat.ble pb l.length&&Nat.ble 1 (size P t))=true:=by
   simp only [Bool.and_eq_true,Nat.beq_eq,Nat.ble_eq]
   exact ⟨⟨⟨⟨trivial,hf⟩,hl⟩,hp⟩,h1⟩
  rw [e0]
  simp only [cond_true]
  rw [List.at_eq,Yp0]
  simp only [hx]
  rw [List.setN_eq,List.set_append_right _ _ (Nat.le_refl _),Nat.sub_self,List.set_cons_zero,yU1]
 omit hT hr in theorem put_at {fr fr':Fr} {d:Tmp} {v:V} (h:fr.put (some d) v=some fr'):fr'.at' d=v:=by
  change (Bool.rec none (some { fr with tm:=fr.tm.set undef v d }) (Nat.blt d fr.n):Option Fr)=some fr' at h
  cases hb:Nat.blt d fr.n with
  | false=>rw [hb] at h;cases h
  | true =>
   rw [hb] at h;cases h
   change (fr.tm.set undef v d).get undef d=v
   rw [T.get_set,if_pos rfl]
 omit hT hr in theorem snK_ok {ihr:Task→Res} {o:Oper} {fr:Fr} {next:Fr→Heap→β} {nextR:Fr→Heap→Res} {h:Heap} {k:Res→β} {d2:Heap→β} (hn:∀ fr h,Nr bot k (next fr h) (nextR fr h))
  (hd:∀ h1,Nr bot k (d2 h1) (qM0 E ihr false o fr (fun fr' h'=>nextR fr' (zb0 C o fr' h')) (fun v h=>.code (.panic v) fr h) (qs0 C true (E.lit fr.fn) P E.glob fr.tm h1 o))) :
  Nr bot k (snK P E C bot o fr next h k d2) (qM0 E ihr false o fr (fun fr' h'=>nextR fr' (zb0 C o fr' h')) (fun v h=>.code (.panic v) (fr) (h)) (qs0 C true (E.lit fr.fn) P E.glob fr.tm (xpA C E.glob fr h o) o)):=by
  have h0:∀ h,Nr bot k (xpK E C bot fr h o d2) (qM0 E ihr false o fr (fun fr' h'=>nextR fr' (zb0 C o fr' h')) (fun v h=>.code (.panic v) (fr) (h)) (qs0 C true (E.lit fr.fn) P E.glob fr.tm (xpA C E.glob fr h o) o)):=fun h=>xpK_ok (F:=fun h1=>qM0 E ihr false o fr (fun fr' h'=>nextR fr' (zb0 C o fr' h')) (fun v h=>.code (.panic v) fr h) (qs0 C true (E.lit fr.fn) P E.glob fr.tm h1 o)) hd
  unfold snK
  split
  ·rename_i t a ho
   split
   ·rename_i r ver off hev
    split
    ·rename_i ver' ty sz pb l x hg
     split
     ·rename_i j hj
      cases hc:(C.sn ty&&Nat.blt j sz) with
      | false=>exact h0 h
      | true =>
       simp only [Bool.and_eq_true,Nat.blt_eq] at hc
       simp only [cond_true]
       split
       ·rename_i v hv
        refine .need fun ⟨e1,e2⟩=>?_
        subst e1;subst e2
        have ex:xpA C E.glob fr h o=h:=by
         unfold xpA ym0
         simp only [ho,cond_false]
        have e0:qs0 C true (E.lit fr.fn) P E.glob fr.tm (xpA C E.glob fr h o) o=.val v (xpA C E.glob fr h o):=by
         change opC P C E.glob fr.tm o (qm0 (E.lit fr.fn) P E.glob fr.tm (xpA C E.glob fr h o) o)=_
         rw [yZ1 ho]
         unfold opC
         rw [ho]
         simp only [hev,isGp,cond_false]
         rw [ZV0,hev]
         simp only
         rw [ex,load_last hg hc.2,hv];rfl
        rw [e0,ex]
        refine goK_snap (sn:=zb0 C o) hn fun fr' _=>?_
        unfold zb0 ym0
        simp only [ho,cond_false]
       ·exact h0 h
     ·exact h0 h
    ·exact h0 h
   ·exact h0 h
  ·rename_i t a y ho
   split
   ·rename_i r ver off hev
    split
    ·rename_i ver' ty sz pb l x hg
     split
     ·rename_i v hy
      split
      ·rename_i j hj
       cases hc:(C.sn ty&&Nat.blt j sz&&v.flat&&Nat.beq (List.len v.cells) (size P t)&&Nat.ble 1 (size P t)) with
       | false=>exact h0 h
       | true =>
        simp only [Bool.and_eq_true,Nat.blt_eq,Nat.beq_eq,Nat.ble_eq] at hc
        obtain ⟨⟨⟨⟨c1,c2⟩,c3⟩,c4⟩,c5⟩:=hc
        simp only [cond_true]
        split
        ·rename_i x' hx'
         refine .need fun ⟨e1,e2,e3⟩=>?_
         subst e1;subst e2
         have ex:xpA C E.glob fr h o=h:=by
          unfold xpA ym0
          simp only [ho,cond_false]
         have e0:qs0 C true (E.lit fr.fn) P E.glob fr.tm (xpA C E.glob fr h o) o=.skip (h.set r (.rowS ver ty sz pb l x')):=by
          have e1:qm0 (E.lit fr.fn) P E.glob fr.tm (xpA C E.glob fr h o) o=yn0 P E.glob fr.tm (xpA C E.glob fr h o) t a y:=by
           rw [zi0 (fun _ _ _ e=>by rw [ho] at e;cases e)]
           unfold qC0;rw [ho];rfl
          change opC P C E.glob fr.tm o (qm0 (E.lit fr.fn) P E.glob fr.tm (xpA C E.glob fr h o) o)=_
          rw [e1]
          unfold opC
          rw [ho]
          simp only
          unfold yn0
          rw [hev]
          simp only [hy]
          rw [ex,store_last hg c2 c3 c4 c5 e3 hx']
         rw [e0]
         refine goK_snap (sn:=zb0 C o) hn fun fr' _=>?_
         unfold zb0 ym0
         simp only [ho,cond_false]
        ·exact h0 h
      ·exact h0 h
     ·exact h0 h
    ·exact h0 h
   ·exact h0 h
  ·rename_i c ho
   split
   ·rename_i b hb
    split
    ·split
     ·rename_i a0 a1 hargs
      split
      ·rename_i r ver o' n cp hev
       have ex:xpA C E.glob fr h o=xpH (Qn0 C fr.fn h r) r:=by
        unfold xpA ym0 Jz0
        simp only [ho,hb,cond_true,hargs,hev,rowP]
       rw [ex]
       refine GX0 (F:=fun h=>qM0 E ihr false o fr (fun fr' h'=>nextR fr' (zb0 C o fr' h')) (fun v h=>.code (.panic v) (fr) (h)) (qs0 C true (E.lit fr.fn) P E.glob fr.tm (xpH h r) o)) fr.fn h r fun h=>?_
       split
       ·rename_i ver' ty sz pb l x hg
        split
        ·rename_i y hy
         split
         ·rename_i t u hty
          split
          ·rename_i e he
           split
           ·rename_i new hnew
            split
            ·rename_i z
             split
             ·rename_i dst hdst
              cases hc:(zo0 P u&&C.sn ty&&Nat.beq ty e&&Nat.beq (size P e) sz&&!(Nat.beq (size P e) 0)&&yG0 P e&&qJ0 cp) with
              | false=>rw [cond_false,yk0];exact hd _
              | true =>
               simp only [Bool.and_eq_true,Nat.beq_eq,Bool.not_eq_true'] at hc
               obtain ⟨⟨⟨⟨⟨⟨c1,c2⟩,c3⟩,c4⟩,c5⟩,c6⟩,c7⟩:=hc
               simp only [cond_true]
               refine .need fun ⟨e1,e2,e3,e4,e5,e6⟩=>?_
               subst e1;subst e2;subst e3;subst c3;subst c4
               obtain rfl:cp=none:=by
                cases cp with
                | none=>rfl
                | some _=>cases c7
               have ex2:xpH h r=h.set r (.row ver ty (size P ty) pb none (l++[x])):=by
                unfold xpH;rw [hg]
               have e0:qs0 C true (E.lit fr.fn) P E.glob fr.tm (xpH h r) o=.val (.sl r (Nat.succ ver) 0 (Nat.add (l.length+1) 1) none) ((h.set r (.row ver ty (size P ty) pb none (l++[x]))).set r (.row (Nat.succ ver) ty (size P ty) pb none ((l++[x])++[z]))):=by
                have q1:qm0 (E.lit fr.fn) P E.glob fr.tm (xpH h r) o=zw0 P E.glob fr.tm (xpH h r) c:=by
                 rw [zi0 (fun _ _ _ e=>by rw [ho] at e;cases e)]
                 unfold qC0;rw [ho];rfl
                change opC P C E.glob fr.tm o (qm0 (E.lit fr.fn) P E.glob fr.tm (xpH h r) o)=_
                rw [q1]
                unfold opC
                rw [ho]
                simp only
                rw [Xw0,hargs]
                rw [show qc0 (AM.ev E.glob fr.tm) [a0,a1]=some [.sl r ver 0 (l.length+1) none,y] by rw [yA0,hev,yA0,hy];rfl]
                simp only [hb,hty]
                change (bif zo0 P u then append P t (xpH h r) (.sl r ver 0 (l.length+1) none) y else _)=_
                rw [c1]
                simp only [cond_true]
                unfold append
                simp only [he]
                rw [ex2,hnew]
                simp only [c5,cond_false,qb0]
                change Qx0 P (h.set r (.row ver ty (size P ty) pb none (l++[x]))) ty (size P ty) r ver 0 (l.length+1) none [z] 1=_
                unfold Qx0
                rw [Heap.get_set_self]
                simp only
                have b1:(Nat.beq ver ver&&Nat.beq (size P ty) (size P ty)&&Nat.ble (Nat.add 0 (l.length+1)) (List.len (l++[x]))&&yG0 P ty&&Nat.ble (Nat.add (l.length+1) 1) qL0&&Nat.ble (Nat.mul (Nat.add (l.length+1) 1) (P.bytesOf ty)) qL0)=true:=by
                 simp only [Bool.and_eq_true,Nat.beq_eq,Nat.ble_eq,List.len_eq,Yq0]
                 exact ⟨⟨⟨⟨⟨trivial,trivial⟩,by simp⟩,c6⟩,e5⟩,e6⟩
                rw [b1]
                simp only [cond_true]
                have b2:(Nat.beq 0 0&&Nat.ble pb (l.length+1)&&Nat.beq ty ty)=true:=by
                 simp only [Bool.and_eq_true,Nat.beq_eq,Nat.ble_eq]
                 exact ⟨⟨trivial,e4⟩,trivial⟩
                rw [b2]
                simp only [cond_true]
                rw [List.takeN_eq,List.app_eq,List.take_of_length_le (Nat.le_of_eq (Yq0 _ _))]
               rw [e0]
               refine goK_snap (sn:=zb0 C o) hn fun fr' hput=>?_
               unfold zb0 ym0
               simp only [ho,hb,cond_true,hdst]
               rw [hdst] at hput
               rw [put_at hput]
               simp only [rowP]
               exact snap_set c2
             ·rw [yk0];exact hd _
            ·rw [yk0];exact hd _
           ·rw [yk0];exact hd _
          ·rw [yk0];exact hd _
         ·rw [yk0];exact hd _
        ·rw [yk0];exact hd _
       ·rw [yk0];exact hd _
      ·exact h0 h
     ·exact h0 h
    ·exact h0 h
   ·exact h0 h
  ·exact h0 h
theorem Gr1 (all l:List Oper):∀ (fr:Fr) (h:Heap) (k:Res→β),Nr bot k (js0 P E C Tb ih0 bot rec true all l fr h k) (Qo0 P E C (qk0 C ih0 ih) all l fr h):=by
 induction l with
 | nil=>intro fr h k;exact .self
 | cons o l IH =>
  intro fr h k
  change Nr bot k (preK C bot o fr h (fun fr1 h=>match wanted all fr1 o with
   | none=>k (.none fr1.fn (some o))
   | some b=>Bool.rec (xpK E C bot fr1 h o (fun h=>goK o fr1 (fun fr h=>qW0 (zb0 C o fr h) (fun h=>js0 P E C Tb ih0 bot rec true all l fr h k)) undef h k))
    (snK P E C bot o fr1 (fun fr h=>js0 P E C Tb ih0 bot rec true all l fr h k) h k (fun h=>opK P E C Tb ih0 bot rec true o fr1 (fun fr h=>qW0 (zb0 C o fr h) (fun h=>js0 P E C Tb ih0 bot rec true all l fr h k)) h k)) b)) (qW0 (xpA C E.glob (zr0 C fr h o).1 (zr0 C fr h o).2 o) (fun h1=>Yg0 P E C (qk0 C ih0 ih) all o (fun fr' h'=>qW0 (zb0 C o fr' h') (fun h2=>Qo0 P E C (qk0 C ih0 ih) all l fr' h2)) (zr0 C fr h o).1 h1))
  simp only [yk0]
  refine preK_ok (f:=fun fr1 h=>Yg0 P E C (qk0 C ih0 ih) all o (fun fr' h'=>Qo0 P E C (qk0 C ih0 ih) all l fr' (zb0 C o fr' h')) fr1 (xpA C E.glob fr1 h o)) fun fr1 h=>?_
  unfold Yg0
  cases wanted all fr1 o with
  | none=>exact .self
  | some b =>
   cases b with
   | false=>exact xpK_ok (F:=fun h=>zM0 o fr1 (fun fr' h'=>Qo0 P E C (qk0 C ih0 ih) all l fr' (zb0 C o fr' h')) undef h) fun h=>goK_ok fun fr h=>IH fr _ k
   | true=>exact snK_ok (fun fr h=>IH fr h k) fun h1=>jA1 (cn:=true) hT hr fun fr h=>IH fr _ k
 omit hT hr in theorem lookup_opL {o:Oper} {tm:T V} {h:Heap} {t:TypeId} {m key:Operand} {ok:Bool} (ho:o.op=.lookup t m key ok):qt0 P E.glob tm h o=o2 E.glob tm h m key (lookup P h t ok):=by
  have e:qC0 P E.glob tm h o=o2 E.glob tm h m key (lookup P h t ok):=by
   unfold qC0;rw [ho];rfl
  rw [← e]
  unfold qt0
  split
  ·rename_i t len ps e;rw [ho] at e;cases e
  ·rfl
theorem JM0 (tm:T V) (h:Heap) (o:Oper) (k:Outc→β):Nr bot k (Zv0 P E C Tb ih0 bot rec tm h o k) (qn0 P E (qk0 C ih0 ih) tm h o):=by
 unfold Zv0 qn0
 have hok:=yW1 (P:=P) (C:=C) E.glob tm h o
 generalize ZK0 C P E.glob tm h o=r at hok
 cases r with
 | val v h1 =>
  rw [show qt0 P E.glob tm h o=.val v h1 from hok]
  exact .self
 | obl v h1 φ =>
  refine .need fun hφ=>?_
  rw [show qt0 P E.glob tm h o=.val v h1 from hok hφ]
  exact .self
 | skip h1 =>
  rw [show qt0 P E.glob tm h o=.skip h1 from hok]
  exact .self
 | no =>
  simp only
  cases qt0 P E.glob tm h o with
  | call f args h'=>exact (qY1 hT hr true f args h' _).then .self
  | yield l args h'=>exact (zv0 hT hr _ _).then .self
  | _=>exact .self
 omit hT hr in theorem operL_op {o:Oper} {tm:T V} {h:Heap} (hb:∀ t len ps,o.op≠.buildSlice t len ps):qt0 P E.glob tm h o=qC0 P E.glob tm h o:=by
  unfold qt0
  split
  ·rename_i t len ps e;exact absurd e (hb t len ps)
  ·rfl
theorem Ys1 (fn:FuncId) (tm:T V) (h:Heap) (o:Oper) (k:Outc→β):Nr bot k (KD0 P E C Tb ih0 bot rec fn tm h o k) (qn0 P E (qk0 C ih0 ih) tm h o):=by
 unfold KD0
 split
 ·rename_i t m key ok ho
  unfold qn0
  rw [lookup_opL (P:=P) (E:=E) ho,ZW0]
  generalize AM.ev E.glob tm m=o1
  cases o1 with
  | none=>exact .self
  | some mv =>
   simp only
   generalize AM.ev E.glob tm key=o2
   cases o2 with
   | none=>exact .self
   | some kv =>
    simp only
    rw [jc1]
    cases lookup P h t ok mv kv <;> exact .self
 ·rename_i t a ho
  have hd:=JM0 (P:=P) (E:=E) (C:=C) hT hr tm h o k
  unfold Qu1
  split
  ·rename_i r ver off hev
   split
   ·rename_i ver' ty sz pb l x hg
    split
    ·rename_i j hj
     cases hc:Nat.blt j sz with
     | false=>exact hd
     | true =>
      rw [Nat.blt_eq] at hc
      simp only [cond_true]
      split
      ·rename_i v hv
       refine .need fun ⟨e2,e3⟩=>?_
       subst e2;subst e3
       have e:qn0 P E (qk0 C ih0 ih) tm h o=.val v h:=by
        unfold qn0
        rw [(Go0 (lit:=false) ho).2,ZV0,hev]
        simp only
        rw [load_last hg hc,hv]
        rfl
       rw [e];exact .self
      ·exact hd
    ·exact hd
   ·exact hd
  ·exact hd
 ·rename_i t a y ho
  have hd:=JM0 (P:=P) (E:=E) (C:=C) hT hr tm h o k
  unfold Qv1
  split
  ·rename_i r ver off hev
   split
   ·rename_i ver' ty sz pb l x hg
    split
    ·rename_i v hy
     split
     ·rename_i j hj
      cases hc:(Nat.blt j sz&&v.flat&&Nat.beq (List.len v.cells) (size P t)&&Nat.ble 1 (size P t)) with
      | false=>exact hd
      | true =>
       simp only [Bool.and_eq_true,Nat.blt_eq,Nat.beq_eq,Nat.ble_eq] at hc
       obtain ⟨⟨⟨c2,c3⟩,c4⟩,c5⟩:=hc
       simp only [cond_true]
       split
       ·rename_i x' hx'
        refine .need fun ⟨e2,e3,e4⟩=>?_
        subst e2;subst e3
        have e:qn0 P E (qk0 C ih0 ih) tm h o=.val undef (h.set r (.rowS ver ty sz pb l x')):=by
         unfold qn0
         rw [operL_op (fun _ _ _ e=>by rw [ho] at e;cases e),show qC0 P E.glob tm h o=yn0 P E.glob tm h t a y by unfold qC0;rw [ho];rfl]
         unfold yn0
         rw [hev]
         simp only [hy]
         rw [store_last hg c2 c3 c4 c5 e4 hx']
        rw [e];exact .self
       ·exact hd
     ·exact hd
    ·exact hd
   ·exact hd
  ·exact hd
 ·rename_i c ho
  have hd:=JM0 (P:=P) (E:=E) (C:=C) hT hr tm h o k
  unfold appD
  split
  ·rename_i b hb
   split
   ·split
    ·rename_i x y hm
     split
     ·rename_i t u hty
      split
      ·rename_i sz es
       split
       ·rename_i e he
        cases hc:(C.apf fn&&zo0 P u&&XK0 x&&Nat.beq sz (size P e)&&!(Nat.beq (size P e) 0)) with
        | false=>exact hd
        | true =>
         simp only [cond_true]
         cases hes:qb0 es with
         | false=>exact hd
         | true =>
          have hes:es=[]:=by cases es with
           | nil=>rfl
           | cons _ _=>cases hes
          subst hes
          simp only [Bool.and_eq_true,Bool.not_eq_true',Nat.beq_eq] at hc
          obtain ⟨⟨⟨⟨_,c1⟩,c2⟩,c3⟩,c4⟩:=hc
          subst c3
          have e3:zw0 P E.glob tm h c=.val x h:=by
           rw [Xw0,hm]
           simp only [hb,hty]
           change (bif zo0 P u then append P t h x (.osl (size P e) []) else _)=_
           rw [c1]
           simp only [cond_true]
           have hn0:newS P h (size P e) (.osl (size P e) [])=some []:=by
            change (bif Nat.beq (size P e) (size P e) then some [] else none)=_
            rw [show Nat.beq (size P e) (size P e)=true by simp];rfl
           rw [Kl0 he (GC0 hn0) c4]
           revert c2
           cases x <;> intro c2 <;> first | rfl | cases c2
          have e:qn0 P E (qk0 C ih0 ih) tm h o=.val x h:=by
           unfold qn0
           rw [operL_op (fun _ _ _ e=>by rw [ho] at e;cases e),show qC0 P E.glob tm h o=zw0 P E.glob tm h c by unfold qC0;rw [ho];rfl,e3]
          rw [e];exact .self
       ·exact hd
      ·exact hd
     ·exact hd
    ·exact hd
   ·exact hd
  ·exact hd
 ·exact JM0 hT hr tm h o k
 omit hT hr in def InvD (P:Program) (E:Env) (ihr:Task→Res) (hs:List Hp) (h:Heap) (rs:List Rc) (ix:List Nat):Prop :=
  ∀ (i:Nat) (r:Rc) (j:Nat),rs[i]?=some r→ix[i]?=some j→j≤hs.length∧(j=hs.length→∃ h',qn0 P E ihr r.tm h r.o=.val r.v h')∧∀ e,j<hs.length→hs[hs.length-1-j]?=some e→∃ h',qn0 P E ihr r.tm e.h r.o=.val r.v h'
 omit hT hr in theorem InvD.write {ihr:Task→Res} {hs:List Hp} {h h':Heap} {rs:List Rc} {ix:List Nat} (hi:InvD P E ihr hs h rs ix) (e:Hp) (he:e.h=h):InvD P E ihr (e::hs) h' rs ix:=fun i r j p q=>by
  obtain ⟨h1,h2,h3⟩:=hi i r j p q
  refine ⟨by simp only [List.length_cons];omega,fun w=>by simp only [List.length_cons] at w;omega,fun x hx hx'=>?_⟩
  simp only [List.length_cons,Nat.add_sub_cancel] at hx hx'
  rcases Nat.lt_or_ge j hs.length with w | w
  ·refine h3 x w ?_
   rw [show hs.length-j=(hs.length-1-j)+1 by omega,List.getElem?_cons_succ] at hx'
   exact hx'
  ·have:j=hs.length:=by omega
   subst this
   rw [Nat.sub_self] at hx'
   simp at hx'
   subst hx'
   rw [he];exact h2 rfl
 omit hT hr in theorem InvD.read {ihr:Task→Res} {hs:List Hp} {h:Heap} {rs:List Rc} {ix:List Nat} (hi:InvD P E ihr hs h rs ix) (r:Rc) (hd:∃ h',qn0 P E ihr r.tm h r.o=.val r.v h'):InvD P E ihr hs h (r::rs) (List.len hs::ix):=fun i r' j p q=>by
  cases i with
  | zero =>
   simp at p q
   subst p;subst q
   rw [List.len_eq]
   exact ⟨Nat.le_refl _,fun _=>hd,fun x w=>absurd w (Nat.lt_irrefl _)⟩
  | succ i=>exact hi i r' j (by simpa using p) (by simpa using q)
 omit hT hr in def EndD (P:Program) (E:Env) (ihr:Task→Res) (r:DR) (ix:List Nat):Prop :=
  match r with
  | .done _ _ hps rcs _=>∀ (i:Nat) (r:Rc) (j:Nat) (e:Hp),rcs[i]?=some r→ix[i]?=some j→j<hps.length→hps[hps.length-1-j]?=some e→∃ h',qn0 P E ihr r.tm e.h r.o=.val r.v h'
  | .stuck _=>True
 omit hT hr in def NrD (P:Program) (E:Env) (ihr:Task→Res) (bot:β) (kk:DR→List Nat→β) (e:β) (r:DR):Prop:=e=bot∨∃ ix,e=kk r ix∧EndD P E ihr r ix
 omit hT hr in theorem NrD.stuck {ihr:Task→Res} {kk:DR→List Nat→β} {o:Option Oper} {ix:List Nat}:NrD P E ihr bot kk (kk (.stuck o) ix) (.stuck o):=.inr ⟨ix,rfl,trivial⟩
 omit hT hr in theorem dPutK_D {ihr:Task→Res} {o:Oper} {v:V} {fr:Fr} {next:Fr→β} {nextR:Fr→DR} {kk:DR→List Nat→β} {ix:List Nat} (hn:∀ fr,NrD P E ihr bot kk (next fr) (nextR fr)):NrD P E ihr bot kk (Zt0 o v fr next (fun r=>kk r ix)) (jO0 o v fr nextR):=by
  unfold Zt0 jO0
  rw [qs1]
  cases fr.put o.dst v with
  | none=>exact .stuck
  | some fr'=>exact hn fr'
 omit hT hr in theorem dValK_ok {ihr:Task→Res} {d:DOp} {next:Fr→Heap→Nat→List Hp→List Rc→Option Pn→List Nat→β} {nextR:DK} {kk:DR→List Nat→β} (hn:∀ fr h pb hs rs pan ix,InvD P E ihr hs h rs ix→NrD P E ihr bot kk (next fr h pb hs rs pan ix) (nextR fr h pb hs rs pan)) (fr:Fr) (h:Heap) (pb:Nat) (hs:List Hp) (rs:List Rc) (pan:Option Pn) (ix:List Nat) (hi:InvD P E ihr hs h rs ix) (r:Outc) (hr:qn0 P E ihr fr.tm h d.o=r) :
  NrD P E ihr bot kk (JL0 E d next fr h pb hs rs pan ix kk r) (dVal E d nextR fr h pb hs rs pan r):=by
  unfold JL0 dVal
  cases r with
  | val v h' =>
   simp only
   cases d.w with
   | true =>
    cases zn0 pan with
    | true=>exact dPutK_D (o:=d.o) (v:=v) (fr:=fr) (ix:=ix) fun fr'=>hn fr' h' d.b (⟨pb,h,some d.i⟩::hs) rs pan ix (hi.write ⟨pb,h,some d.i⟩ rfl)
    | false=>exact .stuck
   | false =>
    refine dPutK_D fun fr'=>hn _ _ _ _ _ _ _ ?_
    cases zR0 E d.o.op with
    | true=>exact hi
    | false=>exact hi.read ⟨d.o,d.i,d.b,fr.tm,v⟩ ⟨h',hr⟩
  | panic v h' =>
   simp only
   cases (d.w&&zn0 pan) with
   | true=>exact hn _ _ _ _ _ _ _ (hi.write _ rfl)
   | false=>exact .stuck
  | stuck=>exact .stuck
theorem Yl1 (all:List Oper) (l:List DOp):∀ (fr:Fr) (h:Heap) (pb:Nat) (hs:List Hp) (rs:List Rc) (pan:Option Pn) (ix:List Nat) (kk:DR→List Nat→β),InvD P E (qk0 C ih0 ih) hs h rs ix→NrD P E (qk0 C ih0 ih) bot kk (YA0 P E C Tb ih0 bot rec all l fr h pb hs rs pan ix kk) (yJ0 P E (qk0 C ih0 ih) all l fr h pb hs rs pan):=by
 induction l with
 | nil =>
  intro fr h pb hs rs pan ix kk hi
  refine .inr ⟨ix,rfl,?_⟩
  change EndD P E (qk0 C ih0 ih) (.done fr h (bif zn0 pan then ⟨pb,h,none⟩::hs else hs) rs pan) ix
  intro i r j e p q w hx
  cases hp:zn0 pan with
  | true =>
   rw [hp] at w hx
   exact (hi.write (h':=h) ⟨pb,h,none⟩ rfl i r j p q).2.2 e w hx
  | false =>
   rw [hp] at w hx
   exact (hi i r j p q).2.2 e w hx
 | cons d l IH =>
  intro fr h pb hs rs pan ix kk hi
  change NrD P E (qk0 C ih0 ih) bot kk (KB0 P E C Tb ih0 bot rec all d (fun fr h pb hs rs pan ix=>YA0 P E C Tb ih0 bot rec all l fr h pb hs rs pan ix kk) fr h pb hs rs pan ix kk) (YB0 P E (qk0 C ih0 ih) all d (yJ0 P E (qk0 C ih0 ih) all l) fr h pb hs rs pan)
  unfold KB0 YB0
  cases YY0 pan d.b with
  | true=>exact IH _ _ _ _ _ _ _ _ hi
  | false =>
   simp only [cond_false]
   cases wanted all fr d.o with
   | none=>exact .stuck
   | some t =>
    cases t with
    | true =>
     simp only [cond_true]
     rcases Ys1 (C:=C) hT hr fr.fn fr.tm h d.o (fun r=>JL0 E d (fun fr h pb hs rs pan ix=>YA0 P E C Tb ih0 bot rec all l fr h pb hs rs pan ix kk) fr h pb hs rs pan ix kk r) with q | q
     ·exact .inl q
     ·rw [q]
      exact dValK_ok (fun fr h pb hs rs pan ix hi=>IH fr h pb hs rs pan ix kk hi) fr h pb hs rs pan ix hi _ rfl
    | false =>
     simp only [cond_false]
     cases d.w with
     | true =>
      cases zn0 pan with
      | true=>exact dPutK_D (o:=d.o) (v:=undef) (fr:=fr) (ix:=ix) fun fr'=>IH fr' h d.b (⟨pb,h,some d.i⟩::hs) rs pan ix kk (hi.write ⟨pb,h,some d.i⟩ rfl)
      | false=>exact .stuck
     | false=>exact dPutK_D (o:=d.o) (v:=undef) (fr:=fr) (ix:=ix) fun fr'=>IH fr' h pb hs rs pan ix kk hi
 omit hT hr in theorem orD_self {b:Bool} {p:Prop} (h:p):orD b p=true:=by
  unfold orD
  cases b with
  | true=>rfl
  | false=>exact @decide_eq_true p (Classical.propDecidable p) h
 omit hT hr in theorem ckOneK_ok {ihr:Task→Res} (r:Rc) (e:Hp) (x:β):Zs0 P E C bot r e x=bot∨(Zs0 P E C bot r e x=x∧yH0 P E ihr r e=true):=by
  unfold Zs0 yH0
  cases tb e.pb r.i with
  | true=>exact .inr ⟨rfl,rfl⟩
  | false =>
   cases jp0 r.b e.nx with
   | true=>exact .inr ⟨rfl,rfl⟩
   | false =>
    simp only [cond_false]
    unfold zg1
    split
    ·rename_i t m key ok ho
     unfold qn0
     rw [lookup_opL (P:=P) (E:=E) ho,ZW0]
     generalize AM.ev E.glob r.tm m=o1
     cases o1 with
     | none=>exact .inl rfl
     | some mv =>
      simp only
      generalize AM.ev E.glob r.tm key=o2
      cases o2 with
      | none=>exact .inl rfl
      | some kv =>
       simp only
       rcases QU0 (bot:=bot) (φ:=lookup P e.h t ok mv kv=some r.v) (x:=x) with q | ⟨hv,q⟩
       ·exact .inl q
       ·rw [q,hv];exact .inr ⟨rfl,orD_self rfl⟩
    unfold zh1
    have hok:=yW1 (P:=P) (C:=C) E.glob r.tm e.h r.o
    unfold qn0
    generalize ZK0 C P E.glob r.tm e.h r.o=q at hok
    cases q with
    | val v h1 =>
     rw [show qt0 P E.glob r.tm e.h r.o=.val v h1 from hok]
     simp only
     rcases QU0 (bot:=bot) (φ:=r.v=v) (x:=x) with q | ⟨hv,q⟩
     ·exact .inl q
     ·rw [q];exact .inr ⟨rfl,orD_self hv⟩
    | obl v h1 φ =>
     simp only
     rcases QU0 (bot:=bot) (φ:=φ) (x:=need bot (r.v=v) x) with q | ⟨hφ,q⟩
     ·exact .inl q
     ·rw [q,show qt0 P E.glob r.tm e.h r.o=.val v h1 from hok hφ]
      rcases QU0 (bot:=bot) (φ:=r.v=v) (x:=x) with q | ⟨hv,q⟩
      ·exact .inl q
      ·rw [q];exact .inr ⟨rfl,orD_self hv⟩
    | skip h1 =>
     rw [show qt0 P E.glob r.tm e.h r.o=.skip h1 from hok]
     simp only
     rcases QU0 (bot:=bot) (φ:=r.v=undef) (x:=x) with q | ⟨hv,q⟩
     ·exact .inl q
     ·rw [q];exact .inr ⟨rfl,orD_self hv⟩
    | no=>exact .inl rfl
 omit hT hr in theorem ckOne_here {ihr:Task→Res} {r:Rc} {e:Hp} (h:∃ h',qn0 P E ihr r.tm e.h r.o=.val r.v h'):yH0 P E ihr r e=true:=by
  obtain ⟨h',hd⟩:=h
  unfold yH0
  rw [hd]
  change (bif tb e.pb r.i then true else bif jp0 r.b e.nx then true else orD (veq depth r.v r.v) (r.v=r.v))=true
  rw [orD_self (b:=veq depth r.v r.v) (p:=r.v=r.v) rfl]
  cases tb e.pb r.i <;> cases jp0 r.b e.nx <;> rfl
 omit hT hr in theorem ckRowK_ok {ihr:Task→Res} (r:Rc) (j:Option Nat) (x:β):∀ (hps:List Hp),(∀ q e,j=some q→q<hps.length→hps[hps.length-1-q]?=some e→∃ h',qn0 P E ihr r.tm e.h r.o=.val r.v h')→yu0 P E C bot r j hps x=bot∨(yu0 P E C bot r j hps x=x∧qV0 (yH0 P E ihr r) hps=true):=by
  intro hps
  induction hps with
  | nil=>intro _;exact .inr ⟨rfl,rfl⟩
  | cons e l IH =>
   intro hj
   have IH':=IH fun q e' hq hl he=>hj q e' hq (by simp only [List.length_cons];omega) (by
    simp only [List.length_cons,Nat.add_sub_cancel]
    rw [show l.length-q=(l.length-1-q)+1 by omega,List.getElem?_cons_succ];exact he)
   change (bif yC0 j (some (List.len l)) then yu0 P E C bot r j l x else Zs0 P E C bot r e (yu0 P E C bot r j l x))=bot∨((bif yC0 j (some (List.len l)) then yu0 P E C bot r j l x else Zs0 P E C bot r e (yu0 P E C bot r j l x))=x∧(bif yH0 P E ihr r e then qV0 (yH0 P E ihr r) l else false)=true)
   cases hb:yC0 j (some (List.len l)) with
   | true =>
    have hj2:=Xy0 _ _ hb
    rw [List.len_eq] at hj2
    have:=ckOne_here (hj l.length e hj2 (by simp) (by simp))
    rw [this]
    exact IH'
   | false =>
    simp only [cond_false]
    rcases ckOneK_ok (C:=C) (ihr:=ihr) r e (yu0 P E C bot r j l x) with h | ⟨h1,h2⟩
    ·exact .inl h
    ·rw [h1,h2]
     exact IH'
 omit hT hr in theorem ckAllK_ok {ihr:Task→Res} (hps:List Hp) (x:β) (rcs:List Rc):∀ (ix:List Nat),(∀ (i:Nat) (r:Rc) (j:Nat) (e:Hp),rcs[i]?=some r→ix[i]?=some j→j<hps.length→hps[hps.length-1-j]?=some e→∃ h',qn0 P E ihr r.tm e.h r.o=.val r.v h')→Zr0 P E C bot hps rcs x ix=bot∨(Zr0 P E C bot hps rcs x ix=x∧QC0 P E ihr hps rcs=true):=by
  induction rcs with
  | nil=>intro ix _;exact .inr ⟨rfl,rfl⟩
  | cons r l IH =>
   intro ix hx
   have key:∀ j ix',(∀ q e,j=some q→q<hps.length→hps[hps.length-1-q]?=some e→∃ h',qn0 P E ihr r.tm e.h r.o=.val r.v h')→(∀ (i:Nat) (r:Rc) (j:Nat) (e:Hp),l[i]?=some r→ix'[i]?=some j→j<hps.length→hps[hps.length-1-j]?=some e→∃ h',qn0 P E ihr r.tm e.h r.o=.val r.v h')→yu0 P E C bot r j hps (Zr0 P E C bot hps l x ix')=bot∨(yu0 P E C bot r j hps (Zr0 P E C bot hps l x ix')=x∧QC0 P E ihr hps (r::l)=true):=fun j ix' h1 h2=>by
    rcases ckRowK_ok (C:=C) r j (Zr0 P E C bot hps l x ix') hps h1 with h | ⟨h3,h4⟩
    ·exact .inl h
    ·rcases IH ix' h2 with h | ⟨h5,h6⟩
     ·left;rw [h3,h]
     ·right
      refine ⟨h3.trans h5,?_⟩
      change (bif qV0 (yH0 P E ihr r) hps then QC0 P E ihr hps l else false)=true
      rw [h4,h6];rfl
   cases ix with
   | nil=>exact key none [] (fun q e hq=>by cases hq) (fun i r' j e _ q=>by simp at q)
   | cons j ix=>exact key (some j) ix (fun q e hq hl he=>by cases hq;exact hx 0 r j e rfl rfl hl he) (fun i r' j' e p q=>hx (i+1) r' j' e (by simpa using p) (by simpa using q))
theorem Yx1 (all:List Oper) (fr:Fr) (h:Heap) (k:Res→β):Nr bot k (KF0 P E C Tb ih0 bot rec all fr h k) (Jj0 P E (qk0 C ih0 ih) all fr h):=by
 unfold KF0 Jj0
 generalize (bif P.follows .mixedOrders then QF0 E all else none)=o1
 cases o1 with
 | none=>exact .self
 | some l =>
  change Nr bot k (YA0 P E C Tb ih0 bot rec all l fr h 0 [] [] none [] (fun r ix=>JO0 P E C bot l fr.fn k r ix)) (JN0 P E (qk0 C ih0 ih) l fr.fn (yJ0 P E (qk0 C ih0 ih) all l fr h 0 [] [] none))
  rcases Yl1 (C:=C) hT hr all l fr h 0 [] [] none [] (fun r ix=>JO0 P E C bot l fr.fn k r ix) (fun i r j p=>by simp at p) with q | ⟨ix,q,hE⟩
  ·exact .inl q
  rw [q]
  generalize yJ0 P E (qk0 C ih0 ih) all l fr h 0 [] [] none=r at hE
  unfold JO0 JN0
  cases r with
  | stuck o=>exact .self
  | done fr' h' hps rcs pan =>
   simp only
   cases jo0 l with
   | true=>cases pan <;> exact .self
   | false =>
    simp only [cond_false,Bool.false_or]
    have hE':∀ (i:Nat) (r:Rc) (j:Nat) (e:Hp),rcs[i]?=some r→ix[i]?=some j→j<hps.length→hps[hps.length-1-j]?=some e→∃ h',qn0 P E (qk0 C ih0 ih) r.tm e.h r.o=.val r.v h':=hE
    clear hE
    rcases ckAllK_ok (C:=C) (P:=P) (E:=E) (bot:=bot) (ihr:=qk0 C ih0 ih) hps (match pan with
     | none=>k (.code .normal fr' h')
     | some p=>k (.code (.panic p.v) (zG0 l fr') p.h)) rcs ix hE' with q | ⟨q1,q2⟩
    ·exact .inl q
    ·rw [q1,q2]
     cases pan <;> exact .self
theorem Qo1 (b:Code) (k:Res→β) (r:Res):Nr bot k (seqK C Tb ih0 bot rec b k r) (Qp0 (qk0 C ih0 ih) b r):=by
 cases r with
 | code e fr h=>cases e <;> first | exact zv0 (C:=C) hT hr (.code b fr h) k | exact .self
 | _=>exact .self
theorem qV2 (b:Code) (k:Res→β) (r:Res):Nr bot k (seqL C Tb ih0 bot rec b k r) (Qp0 (ihL C (qk0 C ih0 ih)) b r):=by
 cases r with
 | code e fr h=>cases e <;> first | exact (zv0 (C:=C) hT hr (.code b fr h) (fun r=>ZP0 C bot h.n (C.live fr.fn b) k r)).then (Gx0 _ _ _ _) | exact .self
 | _=>exact .self
theorem YD1 (lid:Nat) (fr:Fr) (k:Res→β) (r:Res):Nr bot k (JP0 C Tb ih0 bot rec lid fr k r) (endLoop (qk0 C ih0 ih) lid fr r):=by
 cases r with
 | ret v h =>
  unfold JP0 endLoop
  simp only
  cases h.get lid with
  | loop st pending fn n tm ps a b d =>
   cases st <;> cases pending <;> first | exact zv0 (C:=C) hT hr (.code _ fr _) k | exact .self
  | _=>exact .self
 | _=>exact .self
theorem ql2 (f:Operand) (params:Array Tmp) (assign body:Code) (fr:Fr) (h:Heap) (k:Res→β):Nr bot k (GU0 P E C Tb ih0 bot rec f params assign body fr h k) (Jk0 P E (qk0 C ih0 ih) f params assign body fr h):=by
 unfold GU0 Jk0
 generalize ev E.glob fr.tm f=o1
 cases o1 with
 | none=>exact .self
 | some fv =>
  simp only
  generalize Zu0 fr h=o2
  cases o2 with
  | none=>exact .self
  | some p =>
   obtain ⟨d,marks,h1⟩:=p
   simp only
   generalize jL0 P (h1.new (.loop .ready .none fr.fn fr.n fr.tm params.toList assign body d)) fv [.func (.yield h1.n) [] []]=o3
   cases o3 with
   | call g args h2 =>
    simp only
    cases E.shared g with
    | true=>exact (zv0 (C:=C) hT hr (.call g args h2) (fun r=>JP0 C Tb ih0 bot rec h1.n { fr with marks:=marks } k r)).then (YD1 hT hr _ _ _ _)
    | false=>exact .self
   | _=>exact .self
theorem Yc1 (c:Code) (fr:Fr) (h:Heap) (k:Res→β):Nr bot k (codeK P E C Tb ih0 bot rec c fr h k) (Ka0 P E C (qk0 C ih0 ih) (.code c fr h)):=by
 cases c with
 | region id ops draw =>
  cases draw with
  | true=>exact Yx1 hT hr ops.toList fr h k
  | false=>exact Gr1 hT hr _ _ _ _ _
 | seq a b=>exact (zv0 (C:=C) hT hr (.code a fr h) (fun r=>seqK C Tb ih0 bot rec b k r)).then (Qo1 hT hr b k _)
 | cond c a b =>
  change Nr bot k (match ev E.glob fr.tm c with
   | some (.bool t)=>Bool.rec (qS0 C Tb ih0 bot rec (.code b fr h) k) (qS0 C Tb ih0 bot rec (.code a fr h) k) t
   | _=>k (.none fr.fn .none)) (Jh0 E (qk0 C ih0 ih) c a b fr h)
  unfold Jh0
  generalize ev E.glob fr.tm c=o1
  cases o1 with
  | none=>exact .self
  | some v =>
   cases v with
   | bool t=>cases t <;> exact zv0 (C:=C) hT hr (.code _ fr h) k
   | _=>exact .self
 | block id b=>exact (zv0 (C:=C) hT hr (.code b fr h) (fun r=>k (Jf0 id r))).then .self
 | loop b=>exact (zv0 (C:=C) hT hr (.code b fr h) (fun r=>ZP0 C bot h.n (C.live fr.fn b) (fun r=>seqL C Tb ih0 bot rec (.loop b) k r) r)).then ((Gx0 _ _ _ _).then (qV2 hT hr (.loop b) k _))
 | rangeFunc f params assign body=>exact ql2 hT hr _ _ _ _ _ _ _
 | scope b=>exact zv0 (C:=C) hT hr (.code b fr h) k
 | _=>exact .self
theorem qG2 (f:FuncId) (fn:Func) (fr:Fr) (l:List (FuncId×List V)):∀ (p:Option V) (h:Heap) (k:Res→β),Nr bot k (Qd1 P C Tb ih0 bot rec f fn fr l p h k) (Jd0 P (qk0 C ih0 ih) f fn fr l p h):=by
 induction l with
 | nil=>intro p h k;exact .self
 | cons d l IH =>
  intro p h k
  refine (zv0 (C:=C) hT hr (.dcall d.1 d.2 p h) _).then ?_
  change Nr bot k _ (match qk0 C ih0 ih (.dcall d.1 d.2 p h) with
   | .dret _ h'=>Jd0 P (qk0 C ih0 ih) f fn fr l .none h'
   | .none a b=>.none a b
   | _=>.none f .none)
  cases qk0 C ih0 ih (.dcall d.1 d.2 p h) with
  | dret _ h'=>exact IH _ _ _
  | _=>exact .self
theorem YC1 (f:FuncId) (fn:Func) (k:Res→β) (r:Res):Nr bot k (KK0 P C Tb ih0 bot rec f fn k r) (KJ0 P (qk0 C ih0 ih) f fn r):=by
 have body:∀ fr p h,Nr bot k (YC0 P C Tb ih0 bot rec f fn fr p h k) (QH0 P (qk0 C ih0 ih) f fn fr p h):=fun fr p h=>by
  unfold YC0 QH0
  generalize ZJ0 fr.marks h=o1
  cases o1 with
  | none=>exact .self
  | some h'=>exact qG2 hT hr _ _ _ _ _ _ _
 cases r with
 | code e fr h=>cases e <;> first | exact body _ _ _ | exact .self
 | _=>exact .self
theorem ZO1 (f:FuncId) (args:List V) (h:Heap) (k:Res→β):Nr bot k (Kt0 P C Tb ih0 bot rec f args h k) (Jg0 P E (qk0 C ih0 ih) f args h):=by
 unfold Kt0 Jg0
 generalize P.funcs[f]?=o1
 cases o1 with
 | none=>exact .self
 | some fn =>
  simp only
  cases fn.body with
  | none =>
   simp only
   generalize YE0 P fn args h=o2
   cases o2 <;> exact .self
  | some body =>
   simp only
   cases Nat.ble (List.len args) fn.ntmps with
   | false=>exact .self
   | true=>exact (zv0 (C:=C) hT hr (.code body ⟨f,fn.ntmps,yg0 args 0 (zX0 (zZ0 fn.ntmps)),[],[],.none,.none,false⟩ h) (fun r=>KK0 P C Tb ih0 bot rec f fn k r)).then (YC1 hT hr f fn k _)
theorem Zz1 (l:Nat) (body:Code) (k:Res→β) (r:Res):Nr bot k (JD0 C Tb ih0 bot rec l body k r) (qk1 (qk0 C ih0 ih) l body r):=by
 cases r with
 | code e fr h =>
  cases e with
  | normal =>
   unfold JD0 qk1
   simp only
   cases h.get l with
   | loop st pend fn n tm ps a b d=>cases st <;> first | exact zv0 (C:=C) hT hr (.code body fr (h.set l (.loop .busy pend fn n tm ps a b d))) k | exact .self
   | _=>exact .self
  | _=>exact .self
 | _=>exact .self
theorem yk2 (l:Nat) (args:List V) (h:Heap) (k:Res→β):Nr bot k (qz1 C Tb ih0 bot rec l args h k) (Jl0 (qk0 C ih0 ih) l args h):=by
 unfold qz1 Jl0
 cases h.get l with
 | loop st pend fn n tm ps assign body d =>
  simp only
  generalize Jm0 ps n args tm=o1
  cases o1 with
  | none=>exact .self
  | some tm'=>exact (zv0 (C:=C) hT hr (.code assign ⟨fn,n,tm',[],[],some l,.none,false⟩ h) (fun r=>JD0 C Tb ih0 bot rec l body (fun r2=>k (endRound l r2)) r)).then ((Zz1 hT hr l body (fun r2=>k (endRound l r2)) _).then .self)
 | _=>exact .self
theorem Yo1 (f:FuncId) (args:List V) (p:Option V) (h:Heap) (k:Res→β):Nr bot k (KC0 P E C Tb ih0 bot rec f args p h k) (Ji0 P E (qk0 C ih0 ih) f args p h):=by
 unfold KC0 Ji0
 generalize P.funcs[f]?=o1
 cases o1 with
 | none=>exact .self
 | some fn =>
  simp only
  generalize fn.body=bd
  cases bd with
  | none=>exact .self
  | some c =>
   cases c with
   | seq a rest =>
    cases a with
    | region id ops draw =>
     cases draw with
     | true=>exact .self
     | false =>
      simp only
      generalize ops.toList=l0
      cases l0 with
      | nil=>exact .self
      | cons o l =>
       simp only
       cases (QO0 o&&qb0 fn.results.toList&&Nat.ble (List.len args) fn.ntmps) with
       | false=>exact .self
       | true =>
        simp only [cond_true]
        generalize Fr.put ⟨f,fn.ntmps,yg0 args 0 (zX0 (zZ0 fn.ntmps)),[],[],.none,.none,false⟩ o.dst (Xz0 p)=o2
        cases o2 with
        | some fr1=>exact (Gs1 hT hr (o::l) l fr1 h (fun r=>seqK C Tb ih0 bot rec rest (fun r2=>k (YD0 f r2)) r)).then ((Qo1 hT hr rest (fun r2=>k (YD0 f r2)) _).then .self)
        | none=>exact .self
    | _=>exact .self
   | _=>exact .self
theorem zz2 (t:Task) (k:Res→β):Nr bot k (stepK P E C Tb ih0 bot rec t k) (Ka0 P E C (qk0 C ih0 ih) t):=by
 cases t with
 | code c fr h=>exact Yc1 hT hr c fr h k
 | call f args h=>exact ZO1 (E:=E) hT hr f args h k
 | yield l args h=>exact yk2 hT hr l args h k
 | dcall f args p h=>exact Yo1 hT hr f args p h k
end ok
theorem evT_ok {P:Program} {E:Env} {C:Cf} {Tb:Task→Option Ent} {ih0:Task→Res} {β:Type} {bot:β} (hT:jE0 ih0 Tb) (m:Nat):∀ t k,Nr bot k (evT P E C Tb ih0 bot m t k) (inn P E C ih0 m t):=by
 induction m with
 | zero=>intro t k;exact .self
 | succ m IH=>intro t k;exact zz2 hT IH t k
def exR {α ε:Type} (R:α→Res) (Q:ε→Res) (r:Res):PR α ε :=
 @dite (PR α ε) (∃ a,r=R a) (Classical.propDecidable _) (fun h=>.ok (Classical.choose h)) (fun _=>@dite (PR α ε) (∃ n,r=Q n) (Classical.propDecidable _) (fun h=>.er (Classical.choose h)) (fun _=>.no))
theorem JR0 {α ε:Type} (s:List (α→Bool)) (R:List Bool→α→Res) (Q:ε→Res) (r:Res):exR (fun a=>R (s.map (· a)) a) Q r=.no∨Ent.res ⟨α,ε,exR (fun a=>R (s.map (· a)) a) Q r,s,R,Q⟩=r:=by
 unfold exR Ent.res
 simp only
 by_cases h1:∃ a,r=R (s.map (· a)) a
 ·rw [dif_pos h1];exact .inr (Classical.choose_spec h1).symm
 ·rw [dif_neg h1]
  by_cases h2:∃ n,r=Q n
  ·rw [dif_pos h2];exact .inr (Classical.choose_spec h2).symm
  ·rw [dif_neg h2];exact .inl rfl
theorem jj0 {α ε:Type} {R:α→Res} {Q:ε→Res} {r:Res} {e:Ent} (he:ent (exR R Q r) R Q=e):e.x=.no∨e.res=r:=by
 subst he
 exact JR0 [] (fun _=>R) Q r
theorem jQ0 {α ε:Type} {s:α→Bool} {R:Bool→α→Res} {Q:ε→Res} {r:Res} {e:Ent} (he:ji0 (exR (fun a=>R (s a) a) Q r) s R Q=e):e.x=.no∨e.res=r:=by
 subst he
 exact JR0 [s] (fun l=>R (l.getD 0 false)) Q r
theorem zr1 {α ε:Type} {s t:α→Bool} {R:Bool→Bool→α→Res} {Q:ε→Res} {r:Res} {e:Ent} (he:ent4 (exR (fun a=>R (s a) (t a) a) Q r) s t R Q=e):e.x=.no∨e.res=r:=by
 subst he
 exact JR0 [s,t] (fun l=>R (l.getD 0 false) (l.getD 1 false)) Q r
theorem YF1 {α ε:Type} {s t u w:α→Bool} {R:Bool→Bool→Bool→Bool→α→Res} {Q:ε→Res} {r:Res} {e:Ent} (he:ent16 (exR (fun a=>R (s a) (t a) (u a) (w a) a) Q r) s t u w R Q=e):e.x=.no∨e.res=r:=by
 subst he
 exact JR0 [s,t,u,w] (fun l=>R (l.getD 0 false) (l.getD 1 false) (l.getD 2 false) (l.getD 3 false)) Q r
theorem exR_R {α ε:Type} {R:α→Res} {Q:ε→Res} (hR:∀ a b,R a=R b→a=b) (a:α):exR R Q (R a)=.ok a:=by
 unfold exR
 have h1:∃ b,R a=R b:=⟨a,rfl⟩
 rw [dif_pos h1,← hR _ _ (Classical.choose_spec h1)]
def PR.bnd {α ε β:Type} (bot:β) (x:PR α ε) (f:α→β) (g:ε→β):β:=PR.rec (motive:=fun _=>β) bot f g x
def evN (P:Program) (E:Env) (C:Cf) (Tb:Task→Option Ent) (ih0:Task→Res) {β:Type} (bot:β) (t:Task) (k:Res→β):β:=evT P E C Tb ih0 bot 64 t (fun r=>match r with
 | .none _ _=>bot
 | r=>finK C bot t k r)
theorem KN0 {P:Program} {E:Env} {C:Cf} {Tb:Task→Option Ent} {n:Nat} {β:Type} {bot:β} (hT:jE0 (rn P E C n) Tb) (t:Task) (k:Res→β):Nr bot k (evN P E C Tb (rn P E C n) bot t k) (rn P E C (n+1) t):=by
 refine (evT_ok hT 64 t _).then ?_
 generalize hr:inn P E C (rn P E C n) 64 t=r
 have e:rn P E C (n+1) t=finT C t r:=by rw [← hr];rfl
 rw [e]
 cases r with
 | none a b=>exact .inl rfl
 | _=>exact JO1 t k _
end
end Go.AM
