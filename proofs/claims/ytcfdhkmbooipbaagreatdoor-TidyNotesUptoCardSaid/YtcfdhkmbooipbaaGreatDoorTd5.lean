/-
  AN ABSTRACT MACHINE that runs a program over plain data, and a second one that tells what calls come to, are sound against the model (a part of it). No condition but what each theorem says.
-/
import Derived.Test.YtcfdhkmbooipbaaGreatDoorTd4
namespace Go.AM
noncomputable section
open Go.RowKit
def asInt:V→Int
 | .int _ n=>n
 | _=>0
def asStr:V→List UInt8
 | .str s=>s
 | _=>[]
def asBool:V→Bool
 | .bool b=>b
 | _=>false
def zM0:V→List V
 | .osl _ es=>es
 | _=>[]
def Qc0 (sz:Nat) (es:List V) (off i:Nat):V:=((es.getD (off/sz) undef).cells).getD (off%sz+i) undef
def gI (sz:Nat) (es:List V) (off i:Nat):Int:=asInt (Qc0 sz es off i)
def gS (sz:Nat) (es:List V) (off i:Nat):List UInt8:=asStr (Qc0 sz es off i)
def gB (sz:Nat) (es:List V) (off i:Nat):Bool:=asBool (Qc0 sz es off i)
def gE (sz:Nat) (es:List V) (off i:Nat):List V:=zM0 (Qc0 sz es off i)
def etaC (P:Program) (t:TypeId) (sz:Nat) (es:List V) (off i:Nat):Option V :=
 match P.underlying t with
 | some (.int k)=>some (.int k (gI sz es off i))
 | some .string=>some (.str (gS sz es off i))
 | some .bool=>some (.bool (gB sz es off i))
 | some (.slice e)=>some (.osl (size P e) (gE sz es off i))
 | _=>none
def etaL (P:Program) (sz:Nat) (es:List V) (off:Nat) (ts:List TypeId):Nat→Option (List V) :=
 List.rec (motive:=fun _=>Nat→Option (List V)) (fun _=>some []) (fun t _ ih i=>match etaC P t sz es off i with
  | some c=>(match ih (Nat.succ i) with
   | some l=>some (c::l)
   | none=>none)
  | none=>none) ts
def zr0 (P:Program) (t:TypeId) (sz:Nat) (es:List V) (off:Nat):Option V :=
 match JC0 P 6 t with
 | some ts=>(match etaL P sz es off ts 0 with
  | some cs=>zV0 P t cs
  | none=>none)
 | none=>none
def ldX (P:Program) (t:TypeId) (sz:Nat) (es:List V) (off:Nat):Prop:=load P Heap.empty t (.gptr sz es off)=zr0 P t sz es off
def symR (C:Cf) (h:Heap) (r:Nat):Bool:=match h.get r with
 | .row _ ty _ _ cap _=>bif qE0 cap then C.srow ty else false
 | _=>false
def Yg0 (P:Program) (C:Cf) (h:Heap) (t:TypeId) (a:V) (d:So):So :=
 match a with
 | .ptr r ver off=>bif symR C h r then (match h.get r with
  | .row ver' _ sz _ _ es=>(match zr0 P t sz es off with
   | some v=>.obl v h (ver=ver'∧ldX P t sz es off)
   | none=>.no)
  | _=>.no) else d
 | _=>d
theorem zT1 (P:Program) (C:Cf) (h:Heap) (t:TypeId) (a:V) {d:So} (hd:So.ok (qg0 h (load P h t a)) d):So.ok (qg0 h (load P h t a)) (Yg0 P C h t a d):=by
 unfold Yg0
 split
 ·rename_i r ver off
  cases symR C h r with
  | false=>exact hd
  | true =>
   simp only [cond_true]
   split
   ·rename_i ver' ty sz pub cap es hg
    split
    ·rename_i v hv
     rintro ⟨rfl,hl⟩
     have e:load P h t (.ptr r ver off)=load P Heap.empty t (.gptr sz es off):=by
      unfold load
      simp only [hg]
      rw [show Nat.beq ver ver=true by simp]
      rfl
     have hl:load P Heap.empty t (.gptr sz es off)=zr0 P t sz es off:=hl
     rw [e,hl,hv];rfl
    ·trivial
   ·trivial
 ·exact hd
def Ze0 (P:Program) (C:Cf) (h:Heap) (t:TypeId) (a:V):So :=
 match a with
 | .gptr sz es off=>(match zr0 P t sz es off with
  | some v=>.obl v h (ldX P t sz es off)
  | none=>.no)
 | a=>Yg0 P C h t a (ofO h (load P h t a))
def jI0 (P:Program) (t:TypeId) (sz:Nat) (es:List V) (off:Nat):Option V :=
 match load P Heap.empty t (.gptr sz es off) with
 | some v=>some (zO0 P t v)
 | none=>none
def ldC (P:Program) (t:TypeId) (sz:Nat) (es:List V) (off:Nat):Prop:=jI0 P t sz es off=zr0 P t sz es off
def Zd0 (P:Program) (C:Cf) (h:Heap) (t:TypeId) (a:V):So :=
 match a with
 | .gptr sz es off=>(match zr0 P t sz es off with
  | some v=>.obl v h (ldC P t sz es off)
  | none=>.no)
 | a=>Yg0 P C h t a (ofO h (load P h t a))
def canS (P:Program) (t:TypeId) (r:So):So :=
 match r with
 | .val v h=>.val (zO0 P t v) h
 | .obl v h φ=>.obl (zO0 P t v) h φ
 | r=>r
def yM0 (C:Cf) (cn lit:Bool) (P:Program) (G:Nat→Option V) (tm:T V) (h:Heap) (o:Oper):So :=
 match o.op with
 | .load t a=>s1 G tm a (Bool.rec (Ze0 P C h t) (Zd0 P C h t) cn)
 | .build t _=>Bool.rec (zU0 lit P G tm h o) (bif C.cb t then canS P t (zU0 lit P G tm h o) else zU0 lit P G tm h o) cn
 | _=>zU0 lit P G tm h o
def qp0 (C:Cf) (cn lit:Bool) (P:Program) (G:Nat→Option V) (tm:T V) (h:Heap) (o:Oper):Rs:=Bool.rec (qj0 lit P G tm h o) (opC P C G tm o (qj0 lit P G tm h o)) cn
def Zb0 (C:Cf) (P:Program) (G:Nat→Option V) (tm:T V) (h:Heap) (o:Oper):So :=
 match o.op with
 | .load t a=>s1 G tm a (Ze0 P C h t)
 | _=>litD P G tm h o
theorem YW1 (P:Program) (C:Cf) (h:Heap) (t:TypeId) (a:V):So.ok (qg0 h (load P h t a)) (Ze0 P C h t a):=by
 cases a with
 | gptr sz es off =>
  unfold Ze0
  simp only
  cases he:zr0 P t sz es off with
  | none=>trivial
  | some v =>
   intro hl
   have hl:load P h t (.gptr sz es off)=zr0 P t sz es off:=hl
   rw [hl,he];rfl
 | _=>exact zT1 P C h t _ (zk0 h _)
theorem KK0 {P:Program} {lit:Bool} {G:Nat→Option V} {tm:T V} {h:Heap} {o:Oper} {t:TypeId} {a:Operand} (ho:o.op=.load t a):qj0 lit P G tm h o=o1 G tm h a (load P h t)∧qq0 P G tm h o=o1 G tm h a (load P h t):=by
 have hb:∀ t len ps,o.op≠.buildSlice t len ps:=fun _ _ _ e=>by rw [ho] at e;cases e
 have e0:qx0 P G tm h o=o1 G tm h a (load P h t):=by unfold qx0;rw [ho];rfl
 refine ⟨(zc0 hb).trans e0,?_⟩
 rw [← e0]
 unfold qq0
 split
 ·rename_i t len ps e;exact absurd e (hb t len ps)
 ·rfl
theorem je1 (P:Program) (C:Cf) (G:Nat→Option V) (tm:T V) (h:Heap) (t:TypeId) (a:Operand):So.ok (o1 G tm h a (load P h t)) (s1 G tm a (Ze0 P C h t)):=by
 rw [Zm0]
 unfold s1
 cases AM.ev G tm a with
 | none=>trivial
 | some v=>exact YW1 P C h t v
theorem yx1 {P:Program} {C:Cf} (cn lit:Bool) (G:Nat→Option V) (tm:T V) (h:Heap) (o:Oper):So.ok (qp0 C cn lit P G tm h o) (yM0 C cn lit P G tm h o):=by
 by_cases hb:∃ t a,o.op=.load t a
 ·obtain ⟨t,a,ho⟩:=hb
  have e1:yM0 C cn lit P G tm h o=s1 G tm a (Bool.rec (Ze0 P C h t) (Zd0 P C h t) cn):=by unfold yM0;rw [ho]
  have e2:opC P C G tm o (qj0 lit P G tm h o)=bif isGp (AM.ev G tm a) then (match qj0 lit P G tm h o with
   | .val v h=>.val (zO0 P t v) h
   | r=>r) else qj0 lit P G tm h o:=by unfold opC;rw [ho];rfl
  unfold qp0
  rw [e1,e2,(KK0 ho).1]
  cases cn with
  | false=>exact je1 P C G tm h t a
  | true =>
   rw [Zm0]
   unfold s1
   cases AM.ev G tm a with
   | none=>trivial
   | some v =>
    change So.ok (bif isGp (some v) then (match qg0 h (load P h t v) with
     | .val v h=>.val (zO0 P t v) h
     | r=>r) else qg0 h (load P h t v)) (Zd0 P C h t v)
    cases hg:isGp (some v) with
    | false =>
     have e:Zd0 P C h t v=Yg0 P C h t v (ofO h (load P h t v)):=by
      unfold Zd0
      split
      ·cases hg
      ·rfl
     rw [e];exact zT1 P C h t v (zk0 h _)
    | true =>
     obtain ⟨sz,es,off,rfl⟩:∃ sz es off,v=.gptr sz es off:=by
      cases v <;> first | exact ⟨_,_,_,rfl⟩ | cases hg
     simp only [cond_true]
     unfold Zd0
     simp only
     cases he:zr0 P t sz es off with
     | none=>trivial
     | some v =>
      intro hl
      change jI0 P t sz es off=zr0 P t sz es off at hl
      rw [he] at hl
      unfold jI0 at hl
      have e:load P Heap.empty t (.gptr sz es off)=load P h t (.gptr sz es off):=rfl
      rw [e] at hl
      cases hv:load P h t (.gptr sz es off) with
      | none=>rw [hv] at hl;cases hl
      | some x=>rw [hv] at hl;simp only [Option.some.injEq] at hl;rw [← hl];rfl
 ·have h0:=yy1 (P:=P) lit G tm h o
  by_cases hb2:∃ t ps,o.op=.build t ps
  ·obtain ⟨t,ps,ho⟩:=hb2
   have e1:yM0 C cn lit P G tm h o=Bool.rec (zU0 lit P G tm h o) (bif C.cb t then canS P t (zU0 lit P G tm h o) else zU0 lit P G tm h o) cn:=by unfold yM0;rw [ho]
   have e2:opC P C G tm o (qj0 lit P G tm h o)=bif C.cb t then (match qj0 lit P G tm h o with
    | .val v h=>.val (zO0 P t v) h
    | r=>r) else qj0 lit P G tm h o:=by unfold opC;rw [ho];rfl
   unfold qp0
   rw [e1,e2]
   cases cn with
   | false=>exact h0
   | true =>
    cases C.cb t with
    | false=>exact h0
    | true =>
     simp only [cond_true]
     generalize zU0 lit P G tm h o=q at h0
     cases q with
     | val v h1=>rw [show qj0 lit P G tm h o=.val v h1 from h0];rfl
     | obl v h1 φ=>intro hφ;rw [show qj0 lit P G tm h o=.val v h1 from h0 hφ]
     | skip h1=>rw [show qj0 lit P G tm h o=.skip h1 from h0];rfl
     | no=>trivial
  ·have e1:yM0 C cn lit P G tm h o=zU0 lit P G tm h o:=by
    unfold yM0
    split
    ·rename_i t a e;exact absurd ⟨t,a,e⟩ hb
    ·rename_i t a e;exact absurd ⟨t,a,e⟩ hb2
    ·rfl
   have e2:opC P C G tm o (qj0 lit P G tm h o)=qj0 lit P G tm h o:=by
    unfold opC
    split
    ·rename_i t a e;exact absurd ⟨t,a,e⟩ hb
    ·rename_i t a e;exact absurd ⟨t,a,e⟩ hb2
    ·rfl
   unfold qp0
   rw [e1,e2]
   cases cn <;> exact h0
theorem zS1 {P:Program} {C:Cf} (G:Nat→Option V) (tm:T V) (h:Heap) (o:Oper):So.ok (qq0 P G tm h o) (Zb0 C P G tm h o):=by
 unfold Zb0
 split
 ·rename_i t a ho
  rw [(KK0 (lit:=false) ho).2];exact je1 P C G tm h t a
 ·exact YT1 (P:=P) G tm h o
def eqB (x y:V):Option Bool :=
 match x with
 | .str a=>(match y with
  | .str b=>some (decide (a=b))
  | _=>none)
 | x=>eqS x y
theorem eqB_eq (x y:V):eqB x y=eqS x y:=by
 cases x with
 | str a =>
  cases y with
  | str b =>
   change some (decide (a=b))=some (zw0 a b)
   rw [Qz0,XD0]
  | _=>rfl
 | _=>rfl
def Ji0 {β:Type} (k:V) (l:List (V×V)) (kk:Option (Option V)→β):β :=
 List.rec (kk (some none)) (fun p _ ih=>match eqB k p.1 with
  | some b=>Bool.rec ih (kk (some (some p.2))) b
  | none=>kk none) l
theorem zh1 {β:Type} (k:V) (l:List (V×V)) (kk:Option (Option V)→β):Ji0 k l kk=kk (findKey k l):=by
 induction l with
 | nil=>rfl
 | cons p l IH =>
  change (match eqB k p.1 with
   | some b=>Bool.rec (Ji0 k l kk) (kk (some (some p.2))) b
   | none=>kk none)=kk (findKey k (p::l))
  rw [zi1,eqB_eq]
  cases eqS k p.1 with
  | none=>rfl
  | some b=>cases b <;> first | exact IH | rfl
def JE0 {β:Type} (P:Program) (t:TypeId) (ok:Bool) (h:Heap) (m k:V) (kk:Option V→β):β :=
 match Zh0 P t with
 | none=>kk none
 | some (kt,e)=>bif qZ0 P kt k then (match m with
  | .nilm=>kk (jC0 P ok e (some none))
  | .map r=>(match h.get r with
   | .map es=>Ji0 k es (fun x=>kk (jC0 P ok e x))
   | _=>kk none)
  | .gmap ks vs=>Ji0 k (jY0 ks vs) (fun x=>kk (jC0 P ok e x))
  | _=>kk none) else kk none
theorem zY1 {β:Type} (P:Program) (t:TypeId) (ok:Bool) (h:Heap) (m k:V) (kk:Option V→β):JE0 P t ok h m k kk=kk (lookup P h t ok m k):=by
 unfold JE0 lookup
 cases Zh0 P t with
 | none=>rfl
 | some p =>
  obtain ⟨kt,e⟩:=p
  simp only
  cases qZ0 P kt k with
  | false=>rfl
  | true =>
   simp only [cond_true]
   cases m with
   | map r =>
    simp only
    cases h.get r with
    | map es=>exact zh1 k es _
    | _=>rfl
   | gmap ks vs=>exact zh1 k (jY0 ks vs) _
   | _=>rfl
inductive PR (α ε:Type) where
 | no
 | ok (a:α)
 | er (e:ε)
structure Ent where
 α:Type
 ε:Type
 x:PR α ε
 s:List (α→Bool)
 R:List Bool→α→Res
 Q:ε→Res
def ent {α ε:Type} (x:PR α ε) (R:α→Res) (Q:ε→Res):Ent:=⟨α,ε,x,[],fun _=>R,Q⟩
def ent2 {α ε:Type} (x:PR α ε) (s:α→Bool) (R:Bool→α→Res) (Q:ε→Res):Ent:=⟨α,ε,x,[s],fun l=>R (l.getD 0 false),Q⟩
def ent16 {α ε:Type} (x:PR α ε) (s t u w:α→Bool) (R:Bool→Bool→Bool→Bool→α→Res) (Q:ε→Res):Ent:=⟨α,ε,x,[s,t,u,w],fun l=>R (l.getD 0 false) (l.getD 1 false) (l.getD 2 false) (l.getD 3 false),Q⟩
def Ent.res (e:Ent):Res :=
 match e.x with
 | .no=>.none 0 none
 | .ok a=>e.R (e.s.map (· a)) a
 | .er n=>e.Q n
def ZD0 (ih0:Task→Res) (Tb:Task→Option Ent):Prop:=∀ t e,Tb t=some e→e.x=.no∨e.res=ih0 t
def putDf (e:V) (j:Nat) (cs:List V):V :=
 match yf0 e j cs with
 | some e'=>e'
 | none=>e
def setC (sz:Nat) (es:List V) (off:Nat) (v:V):List V:=List.setN (putDf (es.getD (off/sz) undef) (off%sz) v.cells) es (off/sz)
def stX (P:Program) (t:TypeId) (v:V) (pub sz:Nat) (es:List V) (off:Nat):Prop:=v.flat=true∧v.cells.length=size P t∧pub≤off/sz∧1≤size P t∧off/sz<es.length∧yf0 (es.getD (off/sz) undef) (off%sz) v.cells≠none
def isShr:BinOp→Bool
 | .shr=>true
 | _=>false
theorem Ga1 {P:Program} {h:Heap} {t:TypeId} {r ver ver' ty sz pub off:Nat} {cap:Option Nat} {es:List V} {v:V} (hg:h.get r=.row ver' ty sz pub cap es) (hv:ver=ver') (hs:stX P t v pub sz es off):store P h t (.ptr r ver off) v=some (h.set r (.row ver ty sz pub cap (setC sz es off v))):=by
 subst hv
 obtain ⟨h1,h2,h3,h4,h5,h6⟩:=hs
 have hat:List.at es (Nat.div off sz)=some (es.getD (off/sz) undef):=by
  rw [List.at_eq]
  change es[off/sz]?=_
  rw [List.getElem?_eq_getElem h5,List.getD_eq_getElem?_getD,List.getElem?_eq_getElem h5]
  rfl
 unfold store
 simp only [hg]
 have e0:(Nat.beq ver ver&&v.flat&&Nat.beq (List.len v.cells) (size P t)&&Nat.ble pub (Nat.div off sz)&&Nat.ble 1 (size P t))=true:=by
  simp only [Bool.and_eq_true,Nat.beq_eq,Nat.ble_eq,List.len_eq]
  exact ⟨⟨⟨⟨trivial,h1⟩,h2⟩,h3⟩,h4⟩
 rw [e0]
 simp only [cond_true,hat]
 unfold setC putDf
 change (match yf0 (es.getD (off/sz) undef) (off%sz) v.cells with
  | some e'=>some (h.set r (.row ver ty sz pub cap (List.setN e' es (off/sz))))
  | none=>none)=_
 cases hp:yf0 (es.getD (off/sz) undef) (off%sz) v.cells with
 | none=>exact absurd hp h6
 | some e'=>rfl
section defs
variable (P:Program) (E:Env) (C:Cf) (Tb:Task→Option Ent) (ih0:Task→Res) {β:Type} (bot:β)
def Ent.run (e:Ent) (k:Res→β):β:=PR.rec (motive:=fun _=>β) bot (fun a=>List.rec (motive:=fun _=>List Bool→β) (fun l=>k (e.R l a)) (fun s _ ih l=>Bool.rec (ih (l++[false])) (ih (l++[true])) (s a)) e.s []) (fun n=>k (e.Q n)) e.x
def oK (t:Task) (k:Res→β):β :=
 match Tb t with
 | some e=>e.run bot k
 | none=>k (ih0 t)
variable (rec:Task→(Res→β)→β)
def Kq0 (f:FuncId) (args:List V) (h:Heap) (k:Res→β):β :=
 needs bot (QT0 C h (qU0 C h 60 (qn0 (qm0 8) args) [])) (match qa0 (rnV (qi0 (qU0 C h 60 (qn0 (qm0 8) args) [])) 8) args with
 | none=>rec (.call f args h) k
 | some as=>match qa0 (fun r=>rnH C h (qi0 (qU0 C h 60 (qn0 (qm0 8) args) [])) r) (qU0 C h 60 (qn0 (qm0 8) args) []) with
  | none=>rec (.call f args h) k
  | some os=>bif okR h.n (qU0 C h 60 (qn0 (qm0 8) args) []) then oK Tb ih0 bot (.call f as (hp os)) (fun r=>outK C bot h (qU0 C h 60 (qn0 (qm0 8) args) []) k r) else rec (.call f args h) k)
def Jm0 (ks:Option (List Nat×List Nat×List Nat)) (b:Code) (fr:Fr) (h:Heap) (k:Res→β):β :=
 match ks with
 | none=>oK Tb ih0 bot (.code (.loop b) fr (zf0 h)) k
 | some ks=>needs bot (jz0 C h) (
  (fun ρ=>bif Nat.beq (List.len ρ) h.n then oK Tb ih0 bot (.code (.loop b) (fr.on (qr0 fr ks.1)) (zf0 h)) k else
   match qa0 (rnL (qi0 ρ)) (qr0 fr ks.1) with
   | none=>oK Tb ih0 bot (.code (.loop b) (fr.on (qr0 fr ks.1)) (zf0 h)) k
   | some L'=>match Yf0 C h ρ ρ with
    | none=>oK Tb ih0 bot (.code (.loop b) (fr.on (qr0 fr ks.1)) (zf0 h)) k
    | some os=>bif okR h.n ρ&&(qb0 fr.marks&&qb0 fr.defers&&qE0 fr.round) then oK Tb ih0 bot (.code (.loop b) (fr.on L') (hp os)) (fun r=>outCK C bot h ρ ks.2.1 k r) else oK Tb ih0 bot (.code (.loop b) (fr.on (qr0 fr ks.1)) (zf0 h)) k)
   (KJ0 h (qU0 C h 80 (Gw0 h ks fr) [])))
def qM0 (t:Task) (k:Res→β):β :=
 match t with
 | .call f args h=>bif C.inl f then rec (.call f args h) k else Kq0 C Tb ih0 bot rec f (C.na f args) h k
 | .code c fr h=>(match c with
  | .loop b=>bif C.unr fr.fn b h.n then rec (.code (.loop b) (wkF (C.live fr.fn b) fr) h) k else bif C.lf fr.fn then Jm0 C Tb ih0 bot (C.live fr.fn b) b fr h k else oK Tb ih0 bot (.code (.loop b) (wkF (C.live fr.fn b) fr) (zf0 h)) k
  | c=>rec (.code c fr h) k)
 | t=>rec t k
def goK (o:Oper) (fr:Fr) (next:Fr→Heap→β) (v:V) (h:Heap) (k:Res→β):β :=
 GL0 6 v (fun v=>match fr.put o.dst v with
 | none=>k (.none fr.fn (some o))
 | some fr'=>next fr' h)
def YM0 (o:Oper) (fr:Fr) (next:Fr→Heap→β) (k:Res→β) (r:Res):β :=
 match r with
 | .ret v h=>goK o fr next v h k
 | .panic v h=>k (.code (.panic v) fr h)
 | .none a b=>k (.none a b)
 | _=>k (.none fr.fn (some o))
def XJ0 (f:FuncId) (args:List V) (h:Heap) (k:Res→β):β :=
 JR0 C bot depth args h (fun x=>match x with
 | .none=>k (.none f .none)
 | some (gs,h1) =>
  match E.prim f gs with
  | some v=>k (Qi0 E f (Bool.rec h1 h (E.borrow f)) v)
  | .none=>qM0 C Tb ih0 bot rec (.call f gs Heap.empty) (fun r=>k (Qh0 (Qi0 E f) (E.borrow f) (Bool.rec h1 h (E.borrow f)) f r)))
def XL0 (f:FuncId) (args:List V) (h:Heap) (k:Res→β):β :=
 bif qv0 (ground 3) args then
  (match E.prim f args with
  | some v=>k (YG0 h v)
  | .none=>qM0 C Tb ih0 bot rec (.call f args Heap.empty) (fun r=>k (Qh0 YG0 false h f r)))
 else k (.none f .none)
def QC1 (f:FuncId) (args:List V) (h:Heap) (k:Res→β):β :=
 qM0 C Tb ih0 bot rec (.call f args h) (fun r=>k (Bool.rec r (jS0 f r) (E.pubRet f)))
def YX0 (lit:Bool) (f:FuncId) (args:List V) (h:Heap) (k:Res→β):β :=
 Bool.rec (Bool.rec (XJ0 E C Tb ih0 bot rec f args h k) (XL0 E C Tb ih0 bot rec f args h k) lit) (QC1 E C Tb ih0 bot rec f args h k) (E.shared f)
def rsK (o:Oper) (fr:Fr) (next:Fr→Heap→β) (k:Res→β) (r:Rs):β :=
 match r with
 | .val v h=>goK o fr next v h k
 | .skip h=>goK o fr next undef h k
 | .call f args h=>YX0 E C Tb ih0 bot rec false f args h (fun r=>YM0 o fr next k r)
 | .yield l args h=>qM0 C Tb ih0 bot rec (.yield l args h) (fun r=>YM0 o fr next k r)
 | .panic v h=>k (.code (.panic v) fr h)
 | .defer f args h=>(match fr.round with
  | some _=>k (.none fr.fn (some o))
  | .none=>match fr.marks with
   | []=>goK o { fr with defers:=(f,args)::fr.defers } next undef h k
   | _=>k (.none fr.fn (some o)))
 | .recover _=>k (.none fr.fn (some o))
 | .stuck=>k (.none fr.fn (some o))
def opK' (cn:Bool) (o:Oper) (fr:Fr) (next:Fr→Heap→β) (h:Heap) (k:Res→β):β :=
 match yM0 C cn (E.lit fr.fn) P E.glob fr.tm h o with
 | .val v h1=>goK o fr next v h1 k
 | .obl v h1 φ=>need bot φ (goK o fr next v h1 k)
 | .skip h1=>goK o fr next undef h1 k
 | .no=>rsK E C Tb ih0 bot rec o fr next k (qp0 C cn (E.lit fr.fn) P E.glob fr.tm h o)
def GN0 (o:Oper) (fr:Fr) (next:Fr→Heap→β) (h:Heap) (k:Res→β) (d:β):β :=
 match o.op with
 | .store t a x=>(match ev E.glob fr.tm a with
  | some (.ptr r ver off)=>bif symR C h r then (match ev E.glob fr.tm x with
   | some v=>(match h.get r with
    | .row ver' ty sz pub cap es=>need bot (ver=ver') (need bot (stX P t v pub sz es off) (goK o fr next undef (h.set r (.row ver ty sz pub cap (setC sz es off v))) k))
    | _=>d)
   | none=>d) else d
  | _=>d)
 | _=>d
def GI0 (o:Oper) (fr:Fr) (next:Fr→Heap→β) (h:Heap) (k:Res→β) (d:β):β :=
 match o.op with
 | .binOp op t x y _=>bif C.shf fr.fn&&isShr op then (match ev E.glob fr.tm x with
  | some (.int kk a)=>(match ev E.glob fr.tm y with
   | some (.int kb b)=>need bot (qC0 .shr kk a b=some (.int kk (a/2^b.toNat))) (goK o fr next (.int kk (a/2^b.toNat)) h k)
   | _=>d)
  | _=>d) else d
 | _=>d
def JX0:V→Bool
 | .nils=>true
 | .sl _ _ _ _ _=>true
 | .gsl _ _ _=>true
 | _=>false
def appK (o:Oper) (fr:Fr) (next:Fr→Heap→β) (h:Heap) (k:Res→β) (d:β):β :=
 match o.op with
 | .call c=>(match c.callee with
  | .builtin b=>(match b with
   | .append=>(match qa0 (ev E.glob fr.tm) c.args.toList with
    | some [x,y]=>(match c.argTypes.toList with
     | [t,u]=>(match y with
      | .osl sz es=>(match ql0 P t with
       | some e=>bif C.apf fr.fn&&zi0 P u&&JX0 x&&Nat.beq sz (size P e)&&!(Nat.beq (size P e) 0) then Bool.rec d (goK o fr next x h k) (qb0 es) else d
       | none=>d)
      | _=>d)
     | _=>d)
    | _=>d)
   | _=>d)
  | _=>d)
 | _=>d
def orN (a b:Int):Int:=((a.toNat ||| b.toNat:Nat):Int)
def isOr:BinOp→Bool
 | .or=>true
 | _=>false
def orK (o:Oper) (fr:Fr) (next:Fr→Heap→β) (h:Heap) (k:Res→β) (d:β):β :=
 match o.op with
 | .binOp op t x y _=>bif C.nxt fr.fn&&isOr op then (match ev E.glob fr.tm x with
  | some (.int kk a)=>(match ev E.glob fr.tm y with
   | some (.int kb b)=>need bot (kk=kb∧qC0 .or kk a b=some (.int kk (orN a b))) (goK o fr next (.int kk (orN a b)) h k)
   | _=>d)
  | _=>d) else d
 | _=>d
def KX0 (o:Oper) (fr:Fr) (next:Fr→Heap→β) (h:Heap) (k:Res→β) (d:β):β :=
 match o.op with
 | .next it isString=>bif C.nxt fr.fn&&isString then (match ev E.glob fr.tm it with
  | some (.iter r)=>(match h.get r with
   | .siter s pos=>bif decide (pos<s.length) then goK o fr next (.tup [.bool true,.int .i64 (pos:Int),.int .i32 (runeAt s pos:Int)]) (h.set r (.siter s (pos+lenAt s pos))) k else goK o fr next (.tup [.bool false]) h k
   | _=>d)
  | _=>d) else d
 | _=>d
def GK0 (kk:IntKind) (a:Int) (f:V→β) (m:Nat):β:=Nat.rec bot (fun j ih=>bif decide (a=(j:Int)) then f (.int kk (j:Int)) else ih) m
def isRem:BinOp→Bool
 | .rem=>true
 | _=>false
def remK (cn:Bool) (o:Oper) (fr:Fr) (next:Fr→Heap→β) (h:Heap) (k:Res→β) (d:β):β :=
 match o.op with
 | .binOp op _ _ y _=>bif C.spl fr.fn&&isRem op then (match yM0 C cn (E.lit fr.fn) P E.glob fr.tm h o with
  | .obl v h1 φ=>(match v with
   | .int kk a=>(match ev E.glob fr.tm y with
    | some (.int _ b)=>(match b with
     | .ofNat m=>need bot φ (GK0 bot kk a (fun v=>goK o fr next v h1 k) m)
     | _=>d)
    | _=>d)
   | _=>d)
  | _=>d) else d
 | _=>d
def opK (cn:Bool) (o:Oper) (fr:Fr) (next:Fr→Heap→β) (h:Heap) (k:Res→β):β :=
 match o.op with
 | .lookup t m key ok=>(match ev E.glob fr.tm m with
  | some mv=>(match ev E.glob fr.tm key with
   | some kv=>JE0 P t ok h mv kv (fun x=>match x with
    | some v=>goK o fr next v h k
    | none=>k (.none fr.fn (some o)))
   | none=>k (.none fr.fn (some o)))
  | none=>k (.none fr.fn (some o)))
 | _=>GI0 E C bot o fr next h k (GN0 P E C bot o fr next h k (appK P E C o fr next h k (orK E C bot o fr next h k (KX0 E C o fr next h k (remK P E C bot cn o fr next h k (opK' P E C Tb ih0 bot rec cn o fr next h k))))))
def preK (o:Oper) (fr:Fr) (h:Heap) (kk:Fr→Heap→β):β :=
 match o.op with
 | .store t _ v=>(match v with
  | .tmp i=>(match C.ps fr.fn t with
   | some b=>bif Nat.blt i fr.n then (match yG0 (fr.at' i) with
    | some v=>Bool.rec (kk (fr.st i (C.nz fr.fn t v)) h) (pubK C bot 38 h v (fun r=>match r with
     | some p=>kk (fr.st i (C.nz fr.fn t p.1)) p.2
     | none=>kk fr h)) b
    | none=>kk fr h) else kk fr h
   | none=>kk fr h)
  | _=>kk fr h)
 | _=>kk fr h
def xpK (fr:Fr) (h:Heap) (o:Oper) (kk:Heap→β):β :=
 bif yd0 o then (match YP0 E.glob fr.tm o with
  | some r=>Zw0 C bot fr.fn h r (fun h=>qQ0 (xpH h r) kk)
  | none=>kk h) else kk h
def findT (t:TypeId) (l:List TypeId):Nat→Option Nat:=List.rec (motive:=fun _=>Nat→Option Nat) (fun _=>none) (fun u _ ih i=>bif Nat.beq u t then some i else ih (Nat.succ i)) l
def posT (ty t:TypeId):Option Nat:=bif Nat.beq ty t then some 0 else (match JC0 P 6 ty with
 | some ts=>findT t ts 0
 | none=>none)
def snK (o:Oper) (fr:Fr) (next:Fr→Heap→β) (h:Heap) (k:Res→β) (d2:Heap→β):β :=
 match o.op with
 | .load t a=>(match ev E.glob fr.tm a with
  | some (.ptr r ver off)=>(match h.get r with
   | .rowS ver' ty sz pb l x=>(match posT P ty t with
    | some j=>bif C.sn ty&&Nat.blt j sz then (match load P (hp [.row 0 ty sz 0 none [x]]) t (.ptr 0 0 j) with
     | some v=>need bot (ver=ver'∧off=l.length*sz+j) (goK o fr next v h k)
     | none=>xpK E C bot fr h o d2) else xpK E C bot fr h o d2
    | none=>xpK E C bot fr h o d2)
   | _=>xpK E C bot fr h o d2)
  | _=>xpK E C bot fr h o d2)
 | .store t a y=>(match ev E.glob fr.tm a with
  | some (.ptr r ver off)=>(match h.get r with
   | .rowS ver' ty sz pb l x=>(match ev E.glob fr.tm y with
    | some v=>(match posT P ty t with
     | some j=>bif C.sn ty&&Nat.blt j sz&&v.flat&&Nat.beq (List.len v.cells) (size P t)&&Nat.ble 1 (size P t) then (match yf0 x j v.cells with
      | some x'=>need bot (ver=ver'∧off=l.length*sz+j∧pb≤l.length) (goK o fr next undef (h.set r (.rowS ver' ty sz pb l x')) k)
      | none=>xpK E C bot fr h o d2) else xpK E C bot fr h o d2
     | none=>xpK E C bot fr h o d2)
    | none=>xpK E C bot fr h o d2)
   | _=>xpK E C bot fr h o d2)
  | _=>xpK E C bot fr h o d2)
 | .call c=>(match c.callee with
  | .builtin b=>(match b with
   | .append=>(match c.args.toList with
    | [a0,a1]=>(match ev E.glob fr.tm a0 with
     | some (.sl r ver o' n cp)=>Zw0 C bot fr.fn h r (fun h=>match h.get r with
      | .rowS ver' ty sz pb l x=>(match ev E.glob fr.tm a1 with
       | some y=>(match c.argTypes.toList with
        | [t,u]=>(match ql0 P t with
         | some e=>(match js0 (h.set r (.row ver' ty sz pb none (l++[x]))) (size P e) y with
          | some new=>(match new with
           | [z]=>(match o.dst with
            | some dst=>bif zi0 P u&&C.sn ty&&Nat.beq ty e&&Nat.beq (size P e) sz&&!(Nat.beq (size P e) 0)&&yt0 P e&&qE0 cp then need bot (ver=ver'∧o'=0∧n=l.length+1∧pb≤n∧n+1≤qF0∧(n+1)*P.bytesOf e≤qF0) (goK o fr next (.sl r (Nat.succ ver) 0 (Nat.add n 1) none) (((h.set r (.row ver' ty sz pb none (l++[x]))).set r (.row (Nat.succ ver) ty sz pb none ((l++[x])++[z]))).set r (.rowS (Nat.succ ver) ty sz pb (l++[x]) z)) k) else qQ0 (xpH h r) d2
            | none=>qQ0 (xpH h r) d2)
           | _=>qQ0 (xpH h r) d2)
          | none=>qQ0 (xpH h r) d2)
         | none=>qQ0 (xpH h r) d2)
        | _=>qQ0 (xpH h r) d2)
       | none=>qQ0 (xpH h r) d2)
      | _=>qQ0 (xpH h r) d2)
     | _=>xpK E C bot fr h o d2)
    | _=>xpK E C bot fr h o d2)
   | _=>xpK E C bot fr h o d2)
  | _=>xpK E C bot fr h o d2)
 | _=>xpK E C bot fr h o d2
def jb0 (cn:Bool) (all l:List Oper):Fr→Heap→(Res→β)→β :=
 List.rec (motive:=fun _=>Fr→Heap→(Res→β)→β) (fun fr h k=>k (.code .normal fr h))
  (fun o _ ih fr h k=>Bool.rec (match wanted all fr o with
   | none=>k (.none fr.fn (some o))
   | some b=>Bool.rec (goK o fr (fun fr h=>ih fr h k) undef h k) (opK P E C Tb ih0 bot rec false o fr (fun fr h=>ih fr h k) h k) b)
   (preK C bot o fr h (fun fr1 h=>match wanted all fr1 o with
   | none=>k (.none fr1.fn (some o))
   | some b=>Bool.rec (xpK E C bot fr1 h o (fun h=>goK o fr1 (fun fr h=>qQ0 (qW0 C o fr h) (fun h=>ih fr h k)) undef h k))
    (snK P E C bot o fr1 (fun fr h=>ih fr h k) h k (fun h=>opK P E C Tb ih0 bot rec true o fr1 (fun fr h=>qQ0 (qW0 C o fr h) (fun h=>ih fr h k)) h k)) b)) cn) l
def QN0 (tm:T V) (h:Heap) (o:Oper) (k:Outc→β):β :=
 match Zb0 C P E.glob tm h o with
 | .val v h1=>k (.val v h1)
 | .obl v h1 φ=>need bot φ (k (.val v h1))
 | .skip h1=>k (.val undef h1)
 | .no=>match qq0 P E.glob tm h o with
  | .val v h'=>k (.val v h')
  | .skip h'=>k (.val undef h')
  | .call f args h'=>YX0 E C Tb ih0 bot rec true f args h' (fun r=>k (orOf r))
  | .yield l args h'=>qM0 C Tb ih0 bot rec (.yield l args h') (fun r=>k (orOf r))
  | .panic v h'=>k (.panic v h')
  | _=>k .stuck
def jm1 (tm:T V) (h:Heap) (t:TypeId) (a:Operand) (k:Outc→β) (d:β):β :=
 match ev E.glob tm a with
 | some (.ptr r ver off)=>(match h.get r with
  | .rowS ver' ty sz _ l x=>(match posT P ty t with
   | some j=>bif Nat.blt j sz then (match load P (hp [.row 0 ty sz 0 none [x]]) t (.ptr 0 0 j) with
    | some v=>need bot (ver=ver'∧off=l.length*sz+j) (k (.val v h))
    | none=>d) else d
   | none=>d)
  | _=>d)
 | _=>d
def jn1 (tm:T V) (h:Heap) (t:TypeId) (a y:Operand) (k:Outc→β) (d:β):β :=
 match ev E.glob tm a with
 | some (.ptr r ver off)=>(match h.get r with
  | .rowS ver' ty sz pb l x=>(match ev E.glob tm y with
   | some v=>(match posT P ty t with
    | some j=>bif Nat.blt j sz&&v.flat&&Nat.beq (List.len v.cells) (size P t)&&Nat.ble 1 (size P t) then (match yf0 x j v.cells with
     | some x'=>need bot (ver=ver'∧off=l.length*sz+j∧pb≤l.length) (k (.val undef (h.set r (.rowS ver' ty sz pb l x'))))
     | none=>d) else d
    | none=>d)
   | none=>d)
  | _=>d)
 | _=>d
def appD (fn:FuncId) (tm:T V) (h:Heap) (c:Call) (k:Outc→β) (d:β):β :=
 match c.callee with
 | .builtin b=>(match b with
  | .append=>(match qa0 (ev E.glob tm) c.args.toList with
   | some [x,y]=>(match c.argTypes.toList with
    | [t,u]=>(match y with
     | .osl sz es=>(match ql0 P t with
      | some e=>bif C.apf fn&&zi0 P u&&JX0 x&&Nat.beq sz (size P e)&&!(Nat.beq (size P e) 0) then Bool.rec d (k (.val x h)) (qb0 es) else d
      | none=>d)
     | _=>d)
    | _=>d)
   | _=>d)
  | _=>d)
 | _=>d
def XU0 (fn:FuncId) (tm:T V) (h:Heap) (o:Oper) (k:Outc→β):β :=
 match o.op with
 | .lookup t m key ok=>(match ev E.glob tm m with
  | some mv=>(match ev E.glob tm key with
   | some kv=>JE0 P t ok h mv kv (fun x=>match x with
    | some v=>k (.val v h)
    | none=>k .stuck)
   | none=>k .stuck)
  | none=>k .stuck)
 | .load t a=>jm1 P E bot tm h t a k (QN0 P E C Tb ih0 bot rec tm h o k)
 | .store t a y=>jn1 P E bot tm h t a y k (QN0 P E C Tb ih0 bot rec tm h o k)
 | .call c=>appD P E C fn tm h c k (QN0 P E C Tb ih0 bot rec tm h o k)
 | _=>QN0 P E C Tb ih0 bot rec tm h o k
def QL0 (o:Oper) (v:V) (fr:Fr) (next:Fr→β) (kk:DR→β):β :=
 GL0 6 v (fun v=>match fr.put o.dst v with
 | none=>kk (.stuck (some o))
 | some fr'=>next fr')
def Jc0 (d:DOp) (next:Fr→Heap→Nat→List Hp→List Rc→Option Pn→List Nat→β) (fr:Fr) (h:Heap) (pb:Nat) (hs:List Hp) (rs:List Rc) (pan:Option Pn) (ix:List Nat) (kk:DR→List Nat→β) (r:Outc):β :=
 match r with
 | .val v h'=>bif d.w then (bif zh0 pan then QL0 d.o v fr (fun fr'=>next fr' h' d.b (⟨pb,h,some d.i⟩::hs) rs pan ix) (fun r=>kk r ix) else kk (.stuck (some d.o)) ix)
  else QL0 d.o v fr (fun fr'=>next fr' h pb hs (bif zJ0 E d.o.op then rs else ⟨d.o,d.i,d.b,fr.tm,v⟩::rs) pan (bif zJ0 E d.o.op then ix else List.len hs::ix)) (fun r=>kk r ix)
 | .panic v h'=>bif d.w&&zh0 pan then next fr h pb (⟨pb,h,some d.i⟩::hs) rs (some ⟨d.i,v,h'⟩) ix else kk (.stuck (some d.o)) ix
 | .stuck=>kk (.stuck (some d.o)) ix
def XS0 (all:List Oper) (d:DOp) (next:Fr→Heap→Nat→List Hp→List Rc→Option Pn→List Nat→β) (fr:Fr) (h:Heap) (pb:Nat) (hs:List Hp) (rs:List Rc) (pan:Option Pn) (ix:List Nat) (kk:DR→List Nat→β):β :=
 bif Yq0 pan d.b then next fr h pb hs rs pan ix
 else match wanted all fr d.o with
  | .none=>kk (.stuck (some d.o)) ix
  | some t=>Bool.rec (bif d.w then (bif zh0 pan then QL0 d.o undef fr (fun fr'=>next fr' h d.b (⟨pb,h,some d.i⟩::hs) rs pan ix) (fun r=>kk r ix) else kk (.stuck (some d.o)) ix)
   else QL0 d.o undef fr (fun fr'=>next fr' h pb hs rs pan ix) (fun r=>kk r ix))
   (XU0 P E C Tb ih0 bot rec fr.fn fr.tm h d.o (fun r=>Jc0 E d next fr h pb hs rs pan ix kk r)) t
def ZS0 (all:List Oper) (l:List DOp):Fr→Heap→Nat→List Hp→List Rc→Option Pn→List Nat→(DR→List Nat→β)→β :=
 List.rec (motive:=fun _=>Fr→Heap→Nat→List Hp→List Rc→Option Pn→List Nat→(DR→List Nat→β)→β) (fun fr h pb hs rs pan ix kk=>kk (.done fr h (bif zh0 pan then ⟨pb,h,none⟩::hs else hs) rs pan) ix)
  (fun d _ ih fr h pb hs rs pan ix kk=>XS0 P E C Tb ih0 bot rec all d (fun fr h pb hs rs pan ix=>ih fr h pb hs rs pan ix kk) fr h pb hs rs pan ix kk) l
def qA1 (r:Rc) (e:Hp) (x:β):β :=
 match Zb0 C P E.glob r.tm e.h r.o with
  | .val v _=>need bot (r.v=v) x
  | .obl v _ φ=>need bot φ (need bot (r.v=v) x)
  | .skip _=>need bot (r.v=undef) x
  | .no=>bot
def qz1 (r:Rc) (e:Hp) (x:β):β :=
 match r.o.op with
 | .lookup t m key ok=>(match ev E.glob r.tm m with
  | some mv=>(match ev E.glob r.tm key with
   | some kv=>need bot (lookup P e.h t ok mv kv=some r.v) x
   | none=>bot)
  | none=>bot)
 | _=>qA1 P E C bot r e x
def QK0 (r:Rc) (e:Hp) (x:β):β :=
 bif tb e.pb r.i then x
 else bif yY0 r.b e.nx then x
 else qz1 P E C bot r e x
def yl0 (r:Rc) (j:Option Nat) (hps:List Hp) (x:β):β:=List.rec x (fun e l ih=>bif yp0 j (some (List.len l)) then ih else QK0 P E C bot r e ih) hps
def QJ0 (hps:List Hp) (rcs:List Rc) (x:β):List Nat→β:=List.rec (motive:=fun _=>List Nat→β) (fun _=>x) (fun r _ ih ix=>match ix with
 | []=>yl0 P E C bot r none hps (ih [])
 | j::ix=>yl0 P E C bot r (some j) hps (ih ix)) rcs
def Jf0 (l:List DOp) (fn:FuncId) (k:Res→β) (r:DR) (ix:List Nat):β :=
 match r with
 | .stuck o=>k (.none fn o)
 | .done fr h hps rcs pan=>bif yX0 l then (match pan with
  | none=>k (.code .normal fr h)
  | some p=>k (.code (.panic p.v) (zz0 l fr) p.h))
  else QJ0 P E C bot hps rcs (match pan with
   | none=>k (.code .normal fr h)
   | some p=>k (.code (.panic p.v) (zz0 l fr) p.h)) ix
def XW0 (all:List Oper) (fr:Fr) (h:Heap) (k:Res→β):β :=
 match (bif P.follows .mixedOrders then Qf0 E all else none) with
 | none=>k (.none fr.fn none)
 | some l=>ZS0 P E C Tb ih0 bot rec all l fr h 0 [] [] none [] (fun r ix=>Jf0 P E C bot l fr.fn k r ix)
def seqK (b:Code) (k:Res→β) (r:Res):β :=
 match r with
 | .code e fr h=>(match e with
  | .normal=>qM0 C Tb ih0 bot rec (.code b fr h) k
  | e=>k (.code e fr h))
 | r=>k r
def seqL (b:Code) (k:Res→β) (r:Res):β :=
 match r with
 | .code e fr h=>(match e with
  | .normal=>qM0 C Tb ih0 bot rec (.code b fr h) (fun r=>Zg0 C bot h.n (C.live fr.fn b) k r)
  | e=>k (.code e fr h))
 | r=>k r
def Jg0 (lid:Nat) (fr:Fr) (k:Res→β) (r:Res):β :=
 match r with
 | .ret _ h=>(match h.get lid with
  | .loop st pending fn n tm ps a b d =>
   (match st with
   | .busy=>k (.none fr.fn .none)
   | _=>match pending with
    | .none=>k (.code .normal fr (h.set lid (.loop .exhausted pending fn n tm ps a b d)))
    | some c=>qM0 C Tb ih0 bot rec (.code c fr (h.set lid (.loop .exhausted pending fn n tm ps a b d))) k)
  | _=>k (.none fr.fn .none))
 | .panic v h=>k (.code (.panic v) fr h)
 | .none a b=>k (.none a b)
 | _=>k (.none fr.fn .none)
def Go0 (f:Operand) (params:Array Tmp) (assign body:Code) (fr:Fr) (h:Heap) (k:Res→β):β :=
 match ev E.glob fr.tm f with
 | .none=>k (.none fr.fn .none)
 | some fv=>match QM0 fr h with
  | .none=>k (.none fr.fn .none)
  | some (d,marks,h1) =>
   match ju0 P (h1.new (.loop .ready .none fr.fn fr.n fr.tm params.toList assign body d)) fv [.func (.yield h1.n) [] []] with
   | .call g args h2=>bif E.shared g then qM0 C Tb ih0 bot rec (.call g args h2) (fun r=>Jg0 C Tb ih0 bot rec h1.n { fr with marks:=marks } k r) else k (.none fr.fn .none)
   | _=>k (.none fr.fn .none)
def codeK (c:Code) (fr:Fr) (h:Heap) (k:Res→β):β :=
 match c with
 | .skip=>k (.code .normal fr h)
 | .region _ ops draw=>bif draw then XW0 P E C Tb ih0 bot rec ops.toList fr h k else jb0 P E C Tb ih0 bot rec true ops.toList ops.toList fr h k
 | .seq a b=>qM0 C Tb ih0 bot rec (.code a fr h) (fun r=>seqK C Tb ih0 bot rec b k r)
 | .cond c a b=>(match ev E.glob fr.tm c with
  | some (.bool t)=>Bool.rec (qM0 C Tb ih0 bot rec (.code b fr h) k) (qM0 C Tb ih0 bot rec (.code a fr h) k) t
  | _=>k (.none fr.fn .none))
 | .block id b=>qM0 C Tb ih0 bot rec (.code b fr h) (fun r=>k (Yx0 id r))
 | .loop b=>qM0 C Tb ih0 bot rec (.code b fr h) (fun r=>Zg0 C bot h.n (C.live fr.fn b) (fun r=>seqL C Tb ih0 bot rec (.loop b) k r) r)
 | .rangeFunc f params assign body=>Go0 P E C Tb ih0 bot rec f params assign body fr h k
 | .exit id=>k (.code (.exit id) fr h)
 | .scope b=>qM0 C Tb ih0 bot rec (.code b fr h) k
 | .label _=>k (.code .normal fr h)
 | .goto _=>k (.none fr.fn .none)
 | .ret=>k (.code .ret fr h)
 | .refuse _=>k (.none fr.fn .none)
def yX1 (f:FuncId) (fn:Func) (fr:Fr) (l:List (FuncId×List V)):Option V→Heap→(Res→β)→β :=
 List.rec (motive:=fun _=>Option V→Heap→(Res→β)→β) (fun p h k=>k (Jh0 P f fn fr p h))
  (fun d _ ih p h k=>qM0 C Tb ih0 bot rec (.dcall d.1 d.2 p h) (fun r=>match r with
   | .dret _ h'=>ih .none h' k
   | .none a b=>k (.none a b)
   | _=>k (.none f .none))) l
def ZU0 (f:FuncId) (fn:Func) (fr:Fr) (p:Option V) (h:Heap) (k:Res→β):β :=
 match Za0 fr.marks h with
 | .none=>k (.none f .none)
 | some h'=>yX1 P C Tb ih0 bot rec f fn fr fr.defers p h' k
def Kb0 (f:FuncId) (fn:Func) (k:Res→β) (r:Res):β :=
 match r with
 | .code e fr h=>(match e with
  | .normal=>ZU0 P C Tb ih0 bot rec f fn fr .none h k
  | .ret=>ZU0 P C Tb ih0 bot rec f fn fr .none h k
  | .panic v=>ZU0 P C Tb ih0 bot rec f fn fr (some v) h k
  | _=>k (.none f .none))
 | r=>k r
def XI0 (f:FuncId) (args:List V) (h:Heap) (k:Res→β):β :=
 match P.funcs[f]? with
 | .none=>k (.none f .none)
 | some fn=>match fn.body with
  | .none=>(match ZW0 P fn args h with
   | some (v,h')=>k (.ret v h')
   | .none=>k (.none f .none))
  | some body=>bif Nat.ble (List.len args) fn.ntmps then qM0 C Tb ih0 bot rec (.code body ⟨f,fn.ntmps,zX0 args 0 (zP0 (zR0 fn.ntmps)),[],[],.none,.none,false⟩ h) (fun r=>Kb0 P C Tb ih0 bot rec f fn k r) else k (.none f .none)
def YT0 (l:Nat) (body:Code) (k:Res→β) (r:Res):β :=
 match r with
 | .code e fr h=>(match e with
  | .normal=>(match h.get l with
   | .loop st pend fn n tm ps a b d=>(match st with
    | .ready=>qM0 C Tb ih0 bot rec (.code body fr (h.set l (.loop .busy pend fn n tm ps a b d))) k
    | _=>k (.none l .none))
   | _=>k (.none l .none))
  | _=>k (.none l .none))
 | r=>k r
def GT0 (l:Nat) (args:List V) (h:Heap) (k:Res→β):β :=
 match h.get l with
 | .loop _ _ fn n tm ps assign body _=>(match YE0 ps n args tm with
  | .none=>k (.none l .none)
  | some tm'=>qM0 C Tb ih0 bot rec (.code assign ⟨fn,n,tm',[],[],some l,.none,false⟩ h) (fun r=>YT0 C Tb ih0 bot rec l body (fun r2=>k (endRound l r2)) r))
 | _=>k (.none l .none)
def XT0 (f:FuncId) (args:List V) (p:Option V) (h:Heap) (k:Res→β):β :=
 match P.funcs[f]? with
 | .none=>k (.none f .none)
 | some fn=>match fn.body with
  | some (.seq (.region _ ops false) rest)=>(match ops.toList with
   | []=>k (.none f .none)
   | o::l=>bif Qm0 o&&qb0 fn.results.toList&&Nat.ble (List.len args) fn.ntmps then
    (match Fr.put ⟨f,fn.ntmps,zX0 args 0 (zP0 (zR0 fn.ntmps)),[],[],.none,.none,false⟩ o.dst (JN0 p) with
     | some fr1=>jb0 P E C Tb ih0 bot rec false ops.toList l fr1 h (fun r=>seqK C Tb ih0 bot rec rest (fun r2=>k (ZV0 f r2)) r)
     | .none=>k (.none f .none))
    else k (.none f .none))
  | _=>k (.none f .none)
def stepK (t:Task) (k:Res→β):β :=
 match t with
 | .code c fr h=>codeK P E C Tb ih0 bot rec c fr h k
 | .call f args h=>XI0 P C Tb ih0 bot rec f args h k
 | .yield l args h=>GT0 C Tb ih0 bot rec l args h k
 | .dcall f args p h=>XT0 P E C Tb ih0 bot rec f args p h k
end defs
def evT (P:Program) (E:Env) (C:Cf) (Tb:Task→Option Ent) (ih0:Task→Res) {β:Type} (bot:β) (m:Nat):Task→(Res→β)→β :=
 Nat.rec (motive:=fun _=>Task→(Res→β)→β) (fun _ k=>k (.none 0 none)) (fun _ rec=>stepK P E C Tb ih0 bot rec) m
section ok
variable {P:Program} {E:Env} {C:Cf} {Tb:Task→Option Ent} {ih0:Task→Res} {β:Type} {bot:β} {rec:Task→(Res→β)→β} {ih:Task→Res}
theorem Yl0 (hT:ZD0 ih0 Tb) (t:Task) (k:Res→β):Nr bot k (oK Tb ih0 bot t k) (ih0 t):=by
 unfold oK
 split
 ·rename_i e he
  have hx:=hT t e he
  obtain ⟨α,ε,x,s,R,Q⟩:=e
  unfold Ent.run
  unfold Ent.res at hx
  cases x with
  | no=>exact .inl rfl
  | ok a =>
   rcases hx with h | h
   ·cases h
   ·refine .inr ?_
    simp only at h
    rw [← h]
    have key:∀ (s:List (α→Bool)) (l:List Bool),(List.rec (motive:=fun _=>List Bool→β) (fun l=>k (R l a)) (fun s _ ih l=>Bool.rec (ih (l++[false])) (ih (l++[true])) (s a)) s l:β)=k (R (l++s.map (· a)) a):=by
     intro s
     induction s with
     | nil=>intro l;rw [List.map_nil,List.append_nil]
     | cons q s IH =>
      intro l
      rw [List.map_cons,show l++q a::s.map (· a)=(l++[q a])++s.map (· a) by simp,← IH]
      cases hq:q a <;> simp only [hq]
    exact key s []
  | er n=>rcases hx with h | h;cases h;exact .inr (by simp only at h;rw [← h])
 ·exact .self
variable (hT:ZD0 ih0 Tb) (hr:∀ t k,Nr bot k (rec t k) (ih t))
 include hT hr
theorem ZV1 (f:FuncId) (args:List V) (h:Heap) (k:Res→β):Nr bot k (Kq0 C Tb ih0 bot rec f args h k) (ZY0 ih0 ih f args h):=by
 unfold Kq0
 refine .needs fun q=>?_
 have hh:=Kn0 _ q
 have e:=yO1 _ _ _ hh
 rw [e] at hh ⊢
 rw [yg1 (f:=fun r=>rnH C h (qi0 (qT0 h 60 (qn0 (qm0 8) args) [])) r) (g:=fun r=>rnO (qi0 (qT0 h 60 (qn0 (qm0 8) args) [])) (h.get r)) fun r hr=>Gs0 (hh r hr)]
 unfold ZY0
 generalize qT0 h 60 (qn0 (qm0 8) args) []=ρ
 generalize qa0 (rnV (qi0 ρ) 8) args=o1
 generalize qa0 (fun r=>rnO (qi0 ρ) (h.get r)) ρ=o2
 generalize okR h.n ρ=o3
 cases o1 with
 | none=>exact hr _ _
 | some as =>
  cases o2 with
  | none=>exact hr _ _
  | some os =>
   cases o3 with
   | false=>exact hr _ _
   | true=>exact (Yl0 hT _ _).then (Xb1 h ρ k _)
 omit hr in theorem frameLK_ok (ks:Option (List Nat×List Nat×List Nat)) (b:Code) (fr:Fr) (h:Heap) (k:Res→β):Nr bot k (Jm0 C Tb ih0 bot ks b fr h k) (jD0 ih0 ks (Zc0 h ks fr) b fr h):=by
  unfold Jm0 jD0 Zc0
  cases ks with
  | none=>exact Yl0 hT _ _
  | some ks =>
   refine .needs fun q=>?_
   have hh:=QS0 q
   simp only
   rw [JW0 hh,KG0 hh]
   generalize KJ0 h (qT0 h 80 (Gw0 h ks fr) [])=ρ
   have hd:=Yl0 (bot:=bot) hT (.code (.loop b) (fr.on (qr0 fr ks.1)) (zf0 h)) k
   generalize qa0 (rnL (qi0 ρ)) (qr0 fr ks.1)=o1
   generalize Qn0 h ρ ρ=o2
   cases Nat.beq (List.len ρ) h.n with
   | true=>exact hd
   | false =>
    cases o1 with
    | none=>exact hd
    | some L' =>
     cases o2 with
     | none=>exact hd
     | some os =>
      simp only [cond_false]
      cases (okR h.n ρ&&(qb0 fr.marks&&qb0 fr.defers&&qE0 fr.round)) with
      | false=>exact hd
      | true=>exact (Yl0 hT _ _).then (Xa1 h ρ ks.2.1 k _)
theorem zp0 (t:Task) (k:Res→β):Nr bot k (qM0 C Tb ih0 bot rec t k) (qh0 C ih0 ih t):=by
 cases t with
 | call f args h =>
  unfold qM0 qh0
  simp only
  cases C.inl f with
  | true=>exact hr _ _
  | false=>exact ZV1 hT hr f (C.na f args) h k
 | code c fr h =>
  have key:∀ b,Nr bot k (bif C.unr fr.fn b h.n then rec (.code (.loop b) (wkF (C.live fr.fn b) fr) h) k else bif C.lf fr.fn then Jm0 C Tb ih0 bot (C.live fr.fn b) b fr h k else oK Tb ih0 bot (.code (.loop b) (wkF (C.live fr.fn b) fr) (zf0 h)) k) (bif C.unr fr.fn b h.n then ih (.code (.loop b) (wkF (C.live fr.fn b) fr) h) else bif C.lf fr.fn then jD0 ih0 (C.live fr.fn b) (Zc0 h (C.live fr.fn b) fr) b fr h else ih0 (.code (.loop b) (wkF (C.live fr.fn b) fr) (zf0 h))):=fun b=>by
   cases C.unr fr.fn b h.n with
   | true=>exact hr _ _
   | false =>
    cases C.lf fr.fn with
    | true=>exact frameLK_ok hT _ _ _ _ _
    | false=>exact Yl0 hT _ _
  cases c <;> first | exact hr _ _ | exact key _
 | _=>exact hr _ _
 omit hT hr in theorem goK_ok {o:Oper} {fr:Fr} {next:Fr→Heap→β} {nextR:Fr→Heap→Res} {v:V} {h:Heap} {k:Res→β} (hn:∀ fr h,Nr bot k (next fr h) (nextR fr h)):Nr bot k (goK o fr next v h k) (zE0 o fr nextR v h):=by
  unfold goK zE0
  rw [GM0]
  cases fr.put o.dst v with
  | none=>exact .self
  | some fr'=>exact hn fr' h
 omit hT hr in theorem afterK_ok {o:Oper} {fr:Fr} {next:Fr→Heap→β} {nextR:Fr→Heap→Res} {k:Res→β} (hn:∀ fr h,Nr bot k (next fr h) (nextR fr h)) (r:Res):Nr bot k (YM0 o fr next k r) (ZF0 o fr nextR (fun v h=>.code (.panic v) fr h) r):=by
  cases r with
  | ret v h=>exact goK_ok hn
  | _=>exact .self
theorem QA1 (f:FuncId) (args:List V) (h:Heap) (k:Res→β):Nr bot k (XJ0 E C Tb ih0 bot rec f args h k) (ZO0 E (qh0 C ih0 ih) f args h):=by
 unfold XJ0 ZO0
 refine (yI1 (C:=C) (bot:=bot) (d:=depth) (by decide) args h _).then ?_
 generalize qt0 (pub [] depth) args h=o1
 cases o1 with
 | none=>exact .self
 | some p =>
  obtain ⟨gs,h1⟩:=p
  simp only
  generalize E.prim f gs=o2
  cases o2 with
  | some v=>exact .self
  | none=>exact (zp0 hT hr _ _).then .self
theorem QD1 (f:FuncId) (args:List V) (h:Heap) (k:Res→β):Nr bot k (XL0 E C Tb ih0 bot rec f args h k) (ya0 E (qh0 C ih0 ih) f args h):=by
 unfold XL0 ya0
 cases qv0 (ground 3) args with
 | false=>exact .self
 | true =>
  simp only [cond_true]
  generalize E.prim f args=o2
  cases o2 with
  | some v=>exact .self
  | none=>exact (zp0 hT hr _ _).then .self
theorem qr1 (lit:Bool) (f:FuncId) (args:List V) (h:Heap) (k:Res→β):Nr bot k (YX0 E C Tb ih0 bot rec lit f args h k) (zN0 E (qh0 C ih0 ih) lit f args h):=by
 unfold YX0 zN0
 cases E.shared f with
 | true=>exact (zp0 hT hr _ _).then .self
 | false =>
  cases lit with
  | true=>exact QD1 hT hr f args h k
  | false=>exact QA1 hT hr f args h k
theorem rsK_ok {o:Oper} {fr:Fr} {next:Fr→Heap→β} {nextR:Fr→Heap→Res} {k:Res→β} (hn:∀ fr h,Nr bot k (next fr h) (nextR fr h)) (r:Rs):Nr bot k (rsK E C Tb ih0 bot rec o fr next k r) (qH0 E (qh0 C ih0 ih) false o fr nextR (fun v h=>.code (.panic v) fr h) r):=by
 cases r with
 | val v h=>exact goK_ok hn
 | skip h=>exact goK_ok hn
 | call f args h=>exact (qr1 hT hr false f args h _).then (afterK_ok hn _)
 | yield l args h=>exact (zp0 (C:=C) hT hr (.yield l args h) (fun r=>YM0 o fr next k r)).then (afterK_ok hn _)
 | panic v h=>exact .self
 | defer f args h =>
  change Nr bot k (match fr.round with
   | some _=>k (.none fr.fn (some o))
   | .none=>match fr.marks with
    | []=>goK o { fr with defers:=(f,args)::fr.defers } next undef h k
    | _=>k (.none fr.fn (some o))) (Qe0 o fr nextR f args h)
  unfold Qe0
  generalize fr.round=o1
  cases o1 with
  | some _=>exact .self
  | none =>
   simp only
   cases hm:fr.marks with
   | nil=>exact goK_ok hn
   | cons a b=>exact .self
 | recover h=>exact .self
 | stuck=>exact .self
theorem JS1 {cn:Bool} {o:Oper} {fr:Fr} {next:Fr→Heap→β} {nextR:Fr→Heap→Res} {h:Heap} {k:Res→β} (hn:∀ fr h,Nr bot k (next fr h) (nextR fr h)):Nr bot k (opK' P E C Tb ih0 bot rec cn o fr next h k) (qH0 E (qh0 C ih0 ih) false o fr nextR (fun v h=>.code (.panic v) fr h) (qp0 C cn (E.lit fr.fn) P E.glob fr.tm h o)):=by
 unfold opK'
 have hok:=yx1 (P:=P) (C:=C) cn (E.lit fr.fn) E.glob fr.tm h o
 generalize yM0 C cn (E.lit fr.fn) P E.glob fr.tm h o=r at hok
 cases r with
 | val v h1 =>
  rw [show qp0 C cn (E.lit fr.fn) P E.glob fr.tm h o=.val v h1 from hok]
  exact goK_ok hn
 | obl v h1 φ =>
  refine .need fun hφ=>?_
  rw [show qp0 C cn (E.lit fr.fn) P E.glob fr.tm h o=.val v h1 from hok hφ]
  exact goK_ok hn
 | skip h1 =>
  rw [show qp0 C cn (E.lit fr.fn) P E.glob fr.tm h o=.skip h1 from hok]
  exact goK_ok hn
 | no=>exact rsK_ok hT hr hn _
 omit hT hr in theorem lookup_op {o:Oper} {lit:Bool} {tm:T V} {h:Heap} {t:TypeId} {m key:Operand} {ok cn:Bool} (ho:o.op=.lookup t m key ok):qp0 C cn lit P E.glob tm h o=o2 E.glob tm h m key (lookup P h t ok):=by
  have e:qj0 lit P E.glob tm h o=o2 E.glob tm h m key (lookup P h t ok):=by
   rw [zc0 (fun _ _ _ e=>by rw [ho] at e;cases e)]
   unfold qx0;rw [ho];rfl
  cases cn with
  | false=>exact e
  | true =>
   change opC P C E.glob tm o (qj0 lit P E.glob tm h o)=_
   unfold opC;rw [ho];exact e
 omit hT hr in theorem storeK_ok {cn:Bool} {o:Oper} {fr:Fr} {next:Fr→Heap→β} {nextR:Fr→Heap→Res} {h:Heap} {k:Res→β} {d:β} {ihr:Task→Res} (hn:∀ fr h,Nr bot k (next fr h) (nextR fr h)) (hd:Nr bot k d (qH0 E ihr false o fr nextR (fun v h=>.code (.panic v) fr h) (qp0 C cn (E.lit fr.fn) P E.glob fr.tm h o))):Nr bot k (GN0 P E C bot o fr next h k d) (qH0 E ihr false o fr nextR (fun v h=>.code (.panic v) fr h) (qp0 C cn (E.lit fr.fn) P E.glob fr.tm h o)):=by
  unfold GN0
  split
  ·rename_i t a x ho
   split
   ·rename_i r ver off hev
    cases symR C h r with
    | false=>exact hd
    | true =>
     simp only [cond_true]
     split
     ·rename_i v hx
      split
      ·rename_i ver' ty sz pub cap es hg
       refine .need fun hv=>.need fun hs=>?_
       have e0:qj0 (E.lit fr.fn) P E.glob fr.tm h o=ye0 P E.glob fr.tm h t a x:=by
        rw [zc0 (fun _ _ _ e=>by rw [ho] at e;cases e)]
        unfold qx0;rw [ho];rfl
       have e1:qp0 C cn (E.lit fr.fn) P E.glob fr.tm h o=.skip (h.set r (.row ver ty sz pub cap (setC sz es off v))):=by
        have e2:qp0 C cn (E.lit fr.fn) P E.glob fr.tm h o=qj0 (E.lit fr.fn) P E.glob fr.tm h o:=by
         cases cn with
         | false=>rfl
         | true =>
          change opC P C E.glob fr.tm o (qj0 (E.lit fr.fn) P E.glob fr.tm h o)=_
          unfold opC;rw [ho]
        rw [e2,e0]
        unfold ye0
        rw [hev]
        simp only [hx]
        rw [Ga1 hg hv hs]
       rw [e1]
       exact goK_ok hn
      ·exact hd
     ·exact hd
   ·exact hd
  ·exact hd
 omit hT hr in theorem shiftK_ok {cn:Bool} {o:Oper} {fr:Fr} {next:Fr→Heap→β} {nextR:Fr→Heap→Res} {h:Heap} {k:Res→β} {d:β} {ihr:Task→Res} (hn:∀ fr h,Nr bot k (next fr h) (nextR fr h)) (hd:Nr bot k d (qH0 E ihr false o fr nextR (fun v h=>.code (.panic v) fr h) (qp0 C cn (E.lit fr.fn) P E.glob fr.tm h o))):Nr bot k (GI0 E C bot o fr next h k d) (qH0 E ihr false o fr nextR (fun v h=>.code (.panic v) fr h) (qp0 C cn (E.lit fr.fn) P E.glob fr.tm h o)):=by
  unfold GI0
  split
  ·rename_i op t x y c ho
   cases hc:(C.shf fr.fn&&isShr op) with
   | false=>exact hd
   | true =>
    simp only [cond_true]
    split
    ·rename_i kk a hx
     split
     ·rename_i kb b hy
      refine .need fun hφ=>?_
      have hop:op=.shr:=by
       simp only [Bool.and_eq_true] at hc
       revert hc
       cases op <;> intro hc <;> first | rfl | cases hc.2
      subst hop
      have e0:qj0 (E.lit fr.fn) P E.glob fr.tm h o=o2 E.glob fr.tm h x y (binOp P h t (qJ0 x||qJ0 y) .shr):=by
       rw [zc0 (fun _ _ _ e=>by rw [ho] at e;cases e)]
       unfold qx0;rw [ho];rfl
      have e2:qp0 C cn (E.lit fr.fn) P E.glob fr.tm h o=qj0 (E.lit fr.fn) P E.glob fr.tm h o:=by
       cases cn with
       | false=>rfl
       | true =>
        change opC P C E.glob fr.tm o (qj0 (E.lit fr.fn) P E.glob fr.tm h o)=_
        unfold opC;rw [ho]
      have e1:qp0 C cn (E.lit fr.fn) P E.glob fr.tm h o=.val (.int kk (a/2^b.toNat)) h:=by
       rw [e2,e0,Zn0,hx]
       simp only [hy]
       change qg0 h (bif yW0 .shr||zb0 kk kb then qC0 .shr kk a b else none)=_
       change qg0 h (qC0 .shr kk a b)=_
       rw [hφ];rfl
      rw [e1]
      exact goK_ok hn
     ·exact hd
    ·exact hd
  ·exact hd
 omit hT hr in theorem appK_ok {cn:Bool} {o:Oper} {fr:Fr} {next:Fr→Heap→β} {nextR:Fr→Heap→Res} {h:Heap} {k:Res→β} {d:β} {ihr:Task→Res} (hn:∀ fr h,Nr bot k (next fr h) (nextR fr h)) (hd:Nr bot k d (qH0 E ihr false o fr nextR (fun v h=>.code (.panic v) fr h) (qp0 C cn (E.lit fr.fn) P E.glob fr.tm h o))):Nr bot k (appK P E C o fr next h k d) (qH0 E ihr false o fr nextR (fun v h=>.code (.panic v) fr h) (qp0 C cn (E.lit fr.fn) P E.glob fr.tm h o)):=by
  unfold appK
  split
  ·rename_i c ho
   split
   ·rename_i b hb
    split
    ·split
     ·rename_i x y hm
      split
      ·rename_i t u hty
       split
       ·rename_i sz es
        split
        ·rename_i e he
         cases hc:(C.apf fr.fn&&zi0 P u&&JX0 x&&Nat.beq sz (size P e)&&!(Nat.beq (size P e) 0)) with
         | false=>exact hd
         | true =>
          simp only [cond_true]
          cases hes:qb0 es with
          | false=>exact hd
          | true =>
           have hes:es=[]:=by cases es with
            | nil=>rfl
            | cons _ _=>cases hes
           subst hes
           simp only [Bool.and_eq_true,Bool.not_eq_true',Nat.beq_eq] at hc
           obtain ⟨⟨⟨⟨_,c1⟩,c2⟩,c3⟩,c4⟩:=hc
           subst c3
           have e0:qj0 (E.lit fr.fn) P E.glob fr.tm h o=zq0 P E.glob fr.tm h c:=by
            rw [zc0 (fun _ _ _ e=>by rw [ho] at e;cases e)]
            unfold qx0;rw [ho];rfl
           have e2:qp0 C cn (E.lit fr.fn) P E.glob fr.tm h o=qj0 (E.lit fr.fn) P E.glob fr.tm h o:=by
            cases cn with
            | false=>rfl
            | true =>
             change opC P C E.glob fr.tm o (qj0 (E.lit fr.fn) P E.glob fr.tm h o)=_
             unfold opC;rw [ho]
           have e3:zq0 P E.glob fr.tm h c=.val x h:=by
            rw [JK0,hm]
            simp only [hb,hty]
            change (bif zi0 P u then append P t h x (.osl (size P e) []) else _)=_
            rw [c1]
            simp only [cond_true]
            have hn0:newS P h (size P e) (.osl (size P e) [])=some []:=by
             change (bif Nat.beq (size P e) (size P e) then some [] else none)=_
             rw [show Nat.beq (size P e) (size P e)=true by simp];rfl
            rw [XA0 he (KW0 hn0) c4]
            revert c2
            cases x <;> intro c2 <;> first | rfl | cases c2
           rw [e2,e0,e3]
           exact goK_ok hn
        ·exact hd
       ·exact hd
      ·exact hd
     ·exact hd
    ·exact hd
   ·exact hd
  ·exact hd
 omit hT hr in theorem opE_cn {cn:Bool} {o:Oper} {fr:Fr} {h:Heap} (hl:∀ r,opC P C E.glob fr.tm o r=r):qp0 C cn (E.lit fr.fn) P E.glob fr.tm h o=qj0 (E.lit fr.fn) P E.glob fr.tm h o:=by
  cases cn with
  | false=>rfl
  | true=>exact hl _
 omit hT hr in theorem orK_ok {cn:Bool} {o:Oper} {fr:Fr} {next:Fr→Heap→β} {nextR:Fr→Heap→Res} {h:Heap} {k:Res→β} {d:β} {ihr:Task→Res} (hn:∀ fr h,Nr bot k (next fr h) (nextR fr h)) (hd:Nr bot k d (qH0 E ihr false o fr nextR (fun v h=>.code (.panic v) fr h) (qp0 C cn (E.lit fr.fn) P E.glob fr.tm h o))):Nr bot k (orK E C bot o fr next h k d) (qH0 E ihr false o fr nextR (fun v h=>.code (.panic v) fr h) (qp0 C cn (E.lit fr.fn) P E.glob fr.tm h o)):=by
  unfold orK
  split
  ·rename_i op t x y c ho
   cases hc:(C.nxt fr.fn&&isOr op) with
   | false=>exact hd
   | true =>
    simp only [cond_true]
    split
    ·rename_i kk a hx
     split
     ·rename_i kb b hy
      refine .need fun ⟨hk,hφ⟩=>?_
      subst hk
      have hop:op=.or:=by
       simp only [Bool.and_eq_true] at hc
       revert hc
       cases op <;> intro hc <;> first | rfl | cases hc.2
      subst hop
      have e0:qj0 (E.lit fr.fn) P E.glob fr.tm h o=o2 E.glob fr.tm h x y (binOp P h t (qJ0 x||qJ0 y) .or):=by
       rw [zc0 (fun _ _ _ e=>by rw [ho] at e;cases e)]
       unfold qx0;rw [ho];rfl
      have e2:qp0 C cn (E.lit fr.fn) P E.glob fr.tm h o=qj0 (E.lit fr.fn) P E.glob fr.tm h o:=opE_cn fun r=>by unfold opC;rw [ho]
      have e1:qp0 C cn (E.lit fr.fn) P E.glob fr.tm h o=.val (.int kk (orN a b)) h:=by
       rw [e2,e0,Zn0,hx]
       simp only [hy]
       change qg0 h (bif yW0 .or||zb0 kk kk then qC0 .or kk a b else none)=_
       rw [show zb0 kk kk=true by cases kk <;> rfl]
       change qg0 h (qC0 .or kk a b)=_
       rw [hφ];rfl
      rw [e1]
      exact goK_ok hn
     ·exact hd
    ·exact hd
  ·exact hd
 omit hT hr in theorem nextK_ok {cn:Bool} {o:Oper} {fr:Fr} {next:Fr→Heap→β} {nextR:Fr→Heap→Res} {h:Heap} {k:Res→β} {d:β} {ihr:Task→Res} (hn:∀ fr h,Nr bot k (next fr h) (nextR fr h)) (hd:Nr bot k d (qH0 E ihr false o fr nextR (fun v h=>.code (.panic v) fr h) (qp0 C cn (E.lit fr.fn) P E.glob fr.tm h o))):Nr bot k (KX0 E C o fr next h k d) (qH0 E ihr false o fr nextR (fun v h=>.code (.panic v) fr h) (qp0 C cn (E.lit fr.fn) P E.glob fr.tm h o)):=by
  unfold KX0
  split
  ·rename_i it isString ho
   cases hc:(C.nxt fr.fn&&isString) with
   | false=>exact hd
   | true =>
    have hs:isString=true:=by simp only [Bool.and_eq_true] at hc;exact hc.2
    subst hs
    simp only [cond_true]
    split
    ·rename_i r hev
     split
     ·rename_i s pos hget
      have e0:qj0 (E.lit fr.fn) P E.glob fr.tm h o=ja0 E.glob fr.tm h it true:=by
       rw [zc0 (fun _ _ _ e=>by rw [ho] at e;cases e)]
       unfold qx0;rw [ho];rfl
      have e2:qp0 C cn (E.lit fr.fn) P E.glob fr.tm h o=qj0 (E.lit fr.fn) P E.glob fr.tm h o:=opE_cn fun r=>by unfold opC;rw [ho]
      have hN:ja0 E.glob fr.tm h it true=bif Nat.blt pos (List.len s) then .val (.tup [.bool true,.int .i64 (Int.ofNat pos),.int .i32 (Int.ofNat (Utf8.decode ⟨⟨s⟩⟩ pos).1)]) (h.set r (.siter s (Nat.add pos (Utf8.decode ⟨⟨s⟩⟩ pos).2))) else .val (.tup [.bool false]) h:=by
       unfold ja0
       simp only [cond_true,hev,hget]
      by_cases hlt:pos<s.length
      ·have e1:Nat.blt pos (List.len s)=true:=by rw [Nat.blt_eq,List.len_eq];exact hlt
       rw [decide_eq_true hlt,cond_true,e2,e0,hN,e1]
       exact goK_ok hn
      ·have e1:Nat.blt pos (List.len s)=false:=by
        rw [Bool.eq_false_iff];intro q;rw [Nat.blt_eq,List.len_eq] at q;exact hlt q
       rw [decide_eq_false hlt,cond_false,e2,e0,hN,e1]
       exact goK_ok hn
     ·exact hd
    ·exact hd
  ·exact hd
 omit hT hr in theorem remK_ok {cn:Bool} {o:Oper} {fr:Fr} {next:Fr→Heap→β} {nextR:Fr→Heap→Res} {h:Heap} {k:Res→β} {d:β} {ihr:Task→Res} (hn:∀ fr h,Nr bot k (next fr h) (nextR fr h)) (hd:Nr bot k d (qH0 E ihr false o fr nextR (fun v h=>.code (.panic v) fr h) (qp0 C cn (E.lit fr.fn) P E.glob fr.tm h o))):Nr bot k (remK P E C bot cn o fr next h k d) (qH0 E ihr false o fr nextR (fun v h=>.code (.panic v) fr h) (qp0 C cn (E.lit fr.fn) P E.glob fr.tm h o)):=by
  unfold remK
  split
  ·cases (C.spl fr.fn&&isRem _) with
   | false=>exact hd
   | true =>
    simp only [cond_true]
    have hok:=yx1 (P:=P) (C:=C) cn (E.lit fr.fn) E.glob fr.tm h o
    split
    ·rename_i v h1 φ hs
     rw [hs] at hok
     split
     ·rename_i kk a
      split
      ·split
       ·rename_i m _
        refine .need fun hφ=>?_
        rw [show qp0 C cn (E.lit fr.fn) P E.glob fr.tm h o=.val (.int kk a) h1 from hok hφ]
        have key:∀ m,Nr bot k (GK0 bot kk a (fun v=>goK o fr next v h1 k) m) (qH0 E ihr false o fr nextR (fun v h=>.code (.panic v) fr h) (.val (.int kk a) h1)):=fun m=>by
         induction m with
         | zero=>exact .inl rfl
         | succ j IH =>
          change Nr bot k (bif decide (a=(j:Int)) then goK o fr next (.int kk (j:Int)) h1 k else GK0 bot kk a (fun v=>goK o fr next v h1 k) j) _
          by_cases e:a=(j:Int)
          ·rw [decide_eq_true e,cond_true,← e];exact goK_ok hn
          ·rw [decide_eq_false e,cond_false];exact IH
        exact key m
       ·exact hd
      ·exact hd
     ·exact hd
    ·exact hd
  ·exact hd
theorem yv1 {cn:Bool} {o:Oper} {fr:Fr} {next:Fr→Heap→β} {nextR:Fr→Heap→Res} {h:Heap} {k:Res→β} (hn:∀ fr h,Nr bot k (next fr h) (nextR fr h)):Nr bot k (opK P E C Tb ih0 bot rec cn o fr next h k) (qH0 E (qh0 C ih0 ih) false o fr nextR (fun v h=>.code (.panic v) fr h) (qp0 C cn (E.lit fr.fn) P E.glob fr.tm h o)):=by
 unfold opK
 split
 ·rename_i t m key ok ho
  rw [lookup_op (P:=P) (E:=E) (cn:=cn) ho,Zn0]
  generalize AM.ev E.glob fr.tm m=o1
  cases o1 with
  | none=>exact .self
  | some mv =>
   simp only
   generalize AM.ev E.glob fr.tm key=o2
   cases o2 with
   | none=>exact .self
   | some kv =>
    simp only
    rw [zY1]
    cases lookup P h t ok mv kv with
    | none=>exact .self
    | some v=>exact goK_ok hn
 ·exact shiftK_ok hn (storeK_ok hn (appK_ok hn (orK_ok hn (nextK_ok hn (remK_ok hn (JS1 hT hr hn))))))
theorem JY1 (all l:List Oper):∀ (fr:Fr) (h:Heap) (k:Res→β),Nr bot k (jb0 P E C Tb ih0 bot rec false all l fr h k) (Qv0 P E (qh0 C ih0 ih) all l fr h):=by
 induction l with
 | nil=>intro fr h k;exact .self
 | cons o l IH =>
  intro fr h k
  change Nr bot k (match wanted all fr o with
   | none=>k (.none fr.fn (some o))
   | some b=>Bool.rec (goK o fr (fun fr h=>jb0 P E C Tb ih0 bot rec false all l fr h k) undef h k) (opK P E C Tb ih0 bot rec false o fr (fun fr h=>jb0 P E C Tb ih0 bot rec false all l fr h k) h k) b) (Yw0 P E (qh0 C ih0 ih) all o (Qv0 P E (qh0 C ih0 ih) all l) fr h)
  unfold Yw0
  cases wanted all fr o with
  | none=>exact .self
  | some b =>
   cases b with
   | false=>exact goK_ok fun fr h=>IH fr h k
   | true=>exact yv1 (cn:=false) hT hr fun fr h=>IH fr h k
 omit hT hr in theorem preK_ok {o:Oper} {fr:Fr} {h:Heap} {kk:Fr→Heap→β} {σ:Type} {k:σ→β} {f:Fr→Heap→σ} (hk:∀ fr h,Nr bot k (kk fr h) (f fr h)):Nr bot k (preK C bot o fr h kk) (f (zl0 C fr h o).1 (zl0 C fr h o).2):=by
  unfold preK zl0
  cases o.op with
  | store t a v =>
   cases v with
   | tmp i =>
    simp only
    cases C.ps fr.fn t with
    | none=>exact hk fr h
    | some b =>
     simp only
     unfold preF
     cases Nat.blt i fr.n with
     | false=>exact hk fr h
     | true =>
      simp only [cond_true]
      cases yG0 (fr.at' i) with
      | none=>exact hk fr h
      | some v =>
       simp only
       unfold preV
       cases b with
       | false=>exact hk _ _
       | true =>
        refine (Gn0 (C:=C) (bot:=bot) (d:=38) (by decide) h v _).then ?_
        change Nr bot k (match AM.pub [] depth h v with
         | some p=>kk (fr.st i (C.nz fr.fn t p.1)) p.2
         | none=>kk fr h) _
        simp only
        cases pub [] depth h v with
        | none=>exact hk fr h
        | some p=>obtain ⟨v',h'⟩:=p;exact hk _ _
   | _=>exact hk fr h
  | _=>exact hk fr h
 omit hT hr in theorem xpK_ok {fr:Fr} {h:Heap} {o:Oper} {kk:Heap→β} {σ:Type} {k:σ→β} {F:Heap→σ} (hk:∀ h,Nr bot k (kk h) (F h)):Nr bot k (xpK E C bot fr h o kk) (F (xpA C E.glob fr h o)):=by
  unfold xpK xpA
  cases yd0 o with
  | true =>
   simp only [cond_true]
   cases YP0 E.glob fr.tm o with
   | none=>exact hk h
   | some r=>exact Gr0 (F:=fun h=>F (xpH h r)) fr.fn h r fun h=>by rw [yb0];exact hk (xpH h r)
  | false=>exact hk h
 omit hT hr in theorem goK_snap {o:Oper} {fr:Fr} {next:Fr→Heap→β} {nextR:Fr→Heap→Res} {v:V} {h1 h2:Heap} {k:Res→β} (hn:∀ fr h,Nr bot k (next fr h) (nextR fr h)) {sn:Fr→Heap→Heap} (hs:∀ fr',fr.put o.dst v=some fr'→sn fr' h1=h2):Nr bot k (goK o fr next v h2 k) (zE0 o fr (fun fr' h'=>nextR fr' (sn fr' h')) v h1):=by
  unfold goK zE0
  rw [GM0]
  cases hp:fr.put o.dst v with
  | none=>exact .self
  | some fr' =>
   change Nr bot k (next fr' h2) (nextR fr' (sn fr' h1))
   rw [hs fr' hp];exact hn fr' h2
 omit hT hr in theorem snap_set {h:Heap} {r ver ty sz pb:Nat} {l:List V} {x:V} (hc:C.sn ty=true):YF0 C (h.set r (.row ver ty sz pb none (l++[x]))) r=(h.set r (.row ver ty sz pb none (l++[x]))).set r (.rowS ver ty sz pb l x):=by
  unfold YF0
  rw [Heap.get_set,if_pos rfl]
  simp only [hc,qE0,Bool.and_self,cond_true,zQ1]
 omit hT hr in theorem cellsAt_last {l:List V} {x:V} {sz j k:Nat} (hj:j<sz):qO0 sz (l++[x]) (l.length*sz+j) k=qO0 sz [x] j k:=by
  have a1:(l.length*sz+j)/sz=l.length:=by rw [Nat.mul_comm,Nat.mul_add_div (by omega),Nat.div_eq_of_lt hj];rfl
  have a2:(l.length*sz+j)%sz=j:=by rw [Nat.mul_comm,Nat.mul_add_mod,Nat.mod_eq_of_lt hj]
  have a3:j/sz=0:=Nat.div_eq_of_lt hj
  have a4:j%sz=j:=Nat.mod_eq_of_lt hj
  unfold qO0
  cases hb:Nat.beq sz 1 with
  | true =>
   rw [Nat.beq_eq] at hb
   subst hb
   obtain rfl:j=0:=by omega
   simp only [cond_true,List.at_eq]
   rw [Nat.mul_one,Nat.add_zero,ZH0];rfl
  | false =>
   simp only [cond_false]
   rw [show Nat.div (l.length*sz+j) sz=l.length from a1,show Nat.mod (l.length*sz+j) sz=j from a2,show Nat.div j sz=0 from a3,show Nat.mod j sz=j from a4,List.at_eq,List.at_eq,ZH0]
   rfl
 omit hT hr in theorem load_last {h:Heap} {r ver ty sz pb j:Nat} {l:List V} {x:V} {t:TypeId} (hg:h.get r=.rowS ver ty sz pb l x) (hj:j<sz):load P h t (.ptr r ver (l.length*sz+j))=load P (hp [.row 0 ty sz 0 none [x]]) t (.ptr 0 0 j):=by
  unfold load
  simp only [hg]
  rw [show Nat.beq ver ver=true by simp,show (hp [Obj.row 0 ty sz 0 none [x]]).get 0=.row 0 ty sz 0 none [x] by rfl]
  simp only [cond_true]
  rw [cellsAt_last hj]
  rfl
 omit hT hr in theorem store_last {h:Heap} {r ver ty sz pb j:Nat} {l:List V} {x x' v:V} {t:TypeId} (hg:h.get r=.rowS ver ty sz pb l x) (hj:j<sz) (hf:v.flat=true) (hl:List.len v.cells=size P t) (h1:1≤size P t) (hp:pb≤l.length) (hx:yf0 x j v.cells=some x'):store P h t (.ptr r ver (l.length*sz+j)) v=some (h.set r (.rowS ver ty sz pb l x')):=by
  have a1:Nat.div (l.length*sz+j) sz=l.length:=by
   change (l.length*sz+j)/sz=_
   rw [Nat.mul_comm,Nat.mul_add_div (by omega),Nat.div_eq_of_lt hj];rfl
  have a2:Nat.mod (l.length*sz+j) sz=j:=by
   change (l.length*sz+j)%sz=_
   rw [Nat.mul_comm,Nat.mul_add_mod,Nat.mod_eq_of_lt hj]
  unfold store
  simp only [hg]
  rw [a1,a2]
  have e0:(Nat.beq ver ver&&v.flat&&Nat.beq (List.len v.cells) (size P t)&&Nat.ble pb l.length&&Nat.ble 1 (size P t))=true:=by
   simp only [Bool.and_eq_true,Nat.beq_eq,Nat.ble_eq]
   exact ⟨⟨⟨⟨trivial,hf⟩,hl⟩,hp⟩,h1⟩
  rw [e0]
  simp only [cond_true]
  rw [List.at_eq,ZH0]
  simp only [hx]
  rw [List.setN_eq,List.set_append_right _ _ (Nat.le_refl _),Nat.sub_self,List.set_cons_zero,zQ1]
 omit hT hr in theorem put_at {fr fr':Fr} {d:Tmp} {v:V} (h:fr.put (some d) v=some fr'):fr'.at' d=v:=by
  change (Bool.rec none (some { fr with tm:=fr.tm.set undef v d }) (Nat.blt d fr.n):Option Fr)=some fr' at h
  cases hb:Nat.blt d fr.n with
  | false=>rw [hb] at h;cases h
  | true =>
   rw [hb] at h;cases h
   change (fr.tm.set undef v d).get undef d=v
   rw [T.get_set,if_pos rfl]
 omit hT hr in theorem snK_ok {ihr:Task→Res} {o:Oper} {fr:Fr} {next:Fr→Heap→β} {nextR:Fr→Heap→Res} {h:Heap} {k:Res→β} {d2:Heap→β} (hn:∀ fr h,Nr bot k (next fr h) (nextR fr h))
  (hd:∀ h1,Nr bot k (d2 h1) (qH0 E ihr false o fr (fun fr' h'=>nextR fr' (qW0 C o fr' h')) (fun v h=>.code (.panic v) fr h) (qp0 C true (E.lit fr.fn) P E.glob fr.tm h1 o))) :
  Nr bot k (snK P E C bot o fr next h k d2) (qH0 E ihr false o fr (fun fr' h'=>nextR fr' (qW0 C o fr' h')) (fun v h=>.code (.panic v) (fr) (h)) (qp0 C true (E.lit fr.fn) P E.glob fr.tm (xpA C E.glob fr h o) o)):=by
  have h0:∀ h,Nr bot k (xpK E C bot fr h o d2) (qH0 E ihr false o fr (fun fr' h'=>nextR fr' (qW0 C o fr' h')) (fun v h=>.code (.panic v) (fr) (h)) (qp0 C true (E.lit fr.fn) P E.glob fr.tm (xpA C E.glob fr h o) o)):=fun h=>xpK_ok (F:=fun h1=>qH0 E ihr false o fr (fun fr' h'=>nextR fr' (qW0 C o fr' h')) (fun v h=>.code (.panic v) fr h) (qp0 C true (E.lit fr.fn) P E.glob fr.tm h1 o)) hd
  unfold snK
  split
  ·rename_i t a ho
   split
   ·rename_i r ver off hev
    split
    ·rename_i ver' ty sz pb l x hg
     split
     ·rename_i j hj
      cases hc:(C.sn ty&&Nat.blt j sz) with
      | false=>exact h0 h
      | true =>
       simp only [Bool.and_eq_true,Nat.blt_eq] at hc
       simp only [cond_true]
       split
       ·rename_i v hv
        refine .need fun ⟨e1,e2⟩=>?_
        subst e1;subst e2
        have ex:xpA C E.glob fr h o=h:=by
         unfold xpA yd0
         simp only [ho,cond_false]
        have e0:qp0 C true (E.lit fr.fn) P E.glob fr.tm (xpA C E.glob fr h o) o=.val v (xpA C E.glob fr h o):=by
         change opC P C E.glob fr.tm o (qj0 (E.lit fr.fn) P E.glob fr.tm (xpA C E.glob fr h o) o)=_
         rw [zV1 ho]
         unfold opC
         rw [ho]
         simp only [hev,isGp,cond_false]
         rw [Zm0,hev]
         simp only
         rw [ex,load_last hg hc.2,hv];rfl
        rw [e0,ex]
        refine goK_snap (sn:=qW0 C o) hn fun fr' _=>?_
        unfold qW0 yd0
        simp only [ho,cond_false]
       ·exact h0 h
     ·exact h0 h
    ·exact h0 h
   ·exact h0 h
  ·rename_i t a y ho
   split
   ·rename_i r ver off hev
    split
    ·rename_i ver' ty sz pb l x hg
     split
     ·rename_i v hy
      split
      ·rename_i j hj
       cases hc:(C.sn ty&&Nat.blt j sz&&v.flat&&Nat.beq (List.len v.cells) (size P t)&&Nat.ble 1 (size P t)) with
       | false=>exact h0 h
       | true =>
        simp only [Bool.and_eq_true,Nat.blt_eq,Nat.beq_eq,Nat.ble_eq] at hc
        obtain ⟨⟨⟨⟨c1,c2⟩,c3⟩,c4⟩,c5⟩:=hc
        simp only [cond_true]
        split
        ·rename_i x' hx'
         refine .need fun ⟨e1,e2,e3⟩=>?_
         subst e1;subst e2
         have ex:xpA C E.glob fr h o=h:=by
          unfold xpA yd0
          simp only [ho,cond_false]
         have e0:qp0 C true (E.lit fr.fn) P E.glob fr.tm (xpA C E.glob fr h o) o=.skip (h.set r (.rowS ver ty sz pb l x')):=by
          have e1:qj0 (E.lit fr.fn) P E.glob fr.tm (xpA C E.glob fr h o) o=ye0 P E.glob fr.tm (xpA C E.glob fr h o) t a y:=by
           rw [zc0 (fun _ _ _ e=>by rw [ho] at e;cases e)]
           unfold qx0;rw [ho];rfl
          change opC P C E.glob fr.tm o (qj0 (E.lit fr.fn) P E.glob fr.tm (xpA C E.glob fr h o) o)=_
          rw [e1]
          unfold opC
          rw [ho]
          simp only
          unfold ye0
          rw [hev]
          simp only [hy]
          rw [ex,store_last hg c2 c3 c4 c5 e3 hx']
         rw [e0]
         refine goK_snap (sn:=qW0 C o) hn fun fr' _=>?_
         unfold qW0 yd0
         simp only [ho,cond_false]
        ·exact h0 h
      ·exact h0 h
     ·exact h0 h
    ·exact h0 h
   ·exact h0 h
  ·rename_i c ho
   split
   ·rename_i b hb
    split
    ·split
     ·rename_i a0 a1 hargs
      split
      ·rename_i r ver o' n cp hev
       have ex:xpA C E.glob fr h o=xpH (jT0 C fr.fn h r) r:=by
        unfold xpA yd0 YP0
        simp only [ho,hb,cond_true,hargs,hev,rowP]
       rw [ex]
       refine Gr0 (F:=fun h=>qH0 E ihr false o fr (fun fr' h'=>nextR fr' (qW0 C o fr' h')) (fun v h=>.code (.panic v) (fr) (h)) (qp0 C true (E.lit fr.fn) P E.glob fr.tm (xpH h r) o)) fr.fn h r fun h=>?_
       split
       ·rename_i ver' ty sz pb l x hg
        split
        ·rename_i y hy
         split
         ·rename_i t u hty
          split
          ·rename_i e he
           split
           ·rename_i new hnew
            split
            ·rename_i z
             split
             ·rename_i dst hdst
              cases hc:(zi0 P u&&C.sn ty&&Nat.beq ty e&&Nat.beq (size P e) sz&&!(Nat.beq (size P e) 0)&&yt0 P e&&qE0 cp) with
              | false=>rw [cond_false,yb0];exact hd _
              | true =>
               simp only [Bool.and_eq_true,Nat.beq_eq,Bool.not_eq_true'] at hc
               obtain ⟨⟨⟨⟨⟨⟨c1,c2⟩,c3⟩,c4⟩,c5⟩,c6⟩,c7⟩:=hc
               simp only [cond_true]
               refine .need fun ⟨e1,e2,e3,e4,e5,e6⟩=>?_
               subst e1;subst e2;subst e3;subst c3;subst c4
               obtain rfl:cp=none:=by
                cases cp with
                | none=>rfl
                | some _=>cases c7
               have ex2:xpH h r=h.set r (.row ver ty (size P ty) pb none (l++[x])):=by
                unfold xpH;rw [hg]
               have e0:qp0 C true (E.lit fr.fn) P E.glob fr.tm (xpH h r) o=.val (.sl r (Nat.succ ver) 0 (Nat.add (l.length+1) 1) none) ((h.set r (.row ver ty (size P ty) pb none (l++[x]))).set r (.row (Nat.succ ver) ty (size P ty) pb none ((l++[x])++[z]))):=by
                have q1:qj0 (E.lit fr.fn) P E.glob fr.tm (xpH h r) o=zq0 P E.glob fr.tm (xpH h r) c:=by
                 rw [zc0 (fun _ _ _ e=>by rw [ho] at e;cases e)]
                 unfold qx0;rw [ho];rfl
                change opC P C E.glob fr.tm o (qj0 (E.lit fr.fn) P E.glob fr.tm (xpH h r) o)=_
                rw [q1]
                unfold opC
                rw [ho]
                simp only
                rw [JK0,hargs]
                rw [show qa0 (AM.ev E.glob fr.tm) [a0,a1]=some [.sl r ver 0 (l.length+1) none,y] by rw [yo0,hev,yo0,hy];rfl]
                simp only [hb,hty]
                change (bif zi0 P u then append P t (xpH h r) (.sl r ver 0 (l.length+1) none) y else _)=_
                rw [c1]
                simp only [cond_true]
                unfold append
                simp only [he]
                rw [ex2,hnew]
                simp only [c5,cond_false,qb0]
                change jZ0 P (h.set r (.row ver ty (size P ty) pb none (l++[x]))) ty (size P ty) r ver 0 (l.length+1) none [z] 1=_
                unfold jZ0
                rw [Heap.get_set_self]
                simp only
                have b1:(Nat.beq ver ver&&Nat.beq (size P ty) (size P ty)&&Nat.ble (Nat.add 0 (l.length+1)) (List.len (l++[x]))&&yt0 P ty&&Nat.ble (Nat.add (l.length+1) 1) qF0&&Nat.ble (Nat.mul (Nat.add (l.length+1) 1) (P.bytesOf ty)) qF0)=true:=by
                 simp only [Bool.and_eq_true,Nat.beq_eq,Nat.ble_eq,List.len_eq,ZI0]
                 exact ⟨⟨⟨⟨⟨trivial,trivial⟩,by simp⟩,c6⟩,e5⟩,e6⟩
                rw [b1]
                simp only [cond_true]
                have b2:(Nat.beq 0 0&&Nat.ble pb (l.length+1)&&Nat.beq ty ty)=true:=by
                 simp only [Bool.and_eq_true,Nat.beq_eq,Nat.ble_eq]
                 exact ⟨⟨trivial,e4⟩,trivial⟩
                rw [b2]
                simp only [cond_true]
                rw [List.takeN_eq,List.app_eq,List.take_of_length_le (Nat.le_of_eq (ZI0 _ _))]
               rw [e0]
               refine goK_snap (sn:=qW0 C o) hn fun fr' hput=>?_
               unfold qW0 yd0
               simp only [ho,hb,cond_true,hdst]
               rw [hdst] at hput
               rw [put_at hput]
               simp only [rowP]
               exact snap_set c2
             ·rw [yb0];exact hd _
            ·rw [yb0];exact hd _
           ·rw [yb0];exact hd _
          ·rw [yb0];exact hd _
         ·rw [yb0];exact hd _
        ·rw [yb0];exact hd _
       ·rw [yb0];exact hd _
      ·exact h0 h
     ·exact h0 h
    ·exact h0 h
   ·exact h0 h
  ·exact h0 h
theorem JX1 (all l:List Oper):∀ (fr:Fr) (h:Heap) (k:Res→β),Nr bot k (jb0 P E C Tb ih0 bot rec true all l fr h k) (jU0 P E C (qh0 C ih0 ih) all l fr h):=by
 induction l with
 | nil=>intro fr h k;exact .self
 | cons o l IH =>
  intro fr h k
  change Nr bot k (preK C bot o fr h (fun fr1 h=>match wanted all fr1 o with
   | none=>k (.none fr1.fn (some o))
   | some b=>Bool.rec (xpK E C bot fr1 h o (fun h=>goK o fr1 (fun fr h=>qQ0 (qW0 C o fr h) (fun h=>jb0 P E C Tb ih0 bot rec true all l fr h k)) undef h k))
    (snK P E C bot o fr1 (fun fr h=>jb0 P E C Tb ih0 bot rec true all l fr h k) h k (fun h=>opK P E C Tb ih0 bot rec true o fr1 (fun fr h=>qQ0 (qW0 C o fr h) (fun h=>jb0 P E C Tb ih0 bot rec true all l fr h k)) h k)) b)) (qQ0 (xpA C E.glob (zl0 C fr h o).1 (zl0 C fr h o).2 o) (fun h1=>Zx0 P E C (qh0 C ih0 ih) all o (fun fr' h'=>qQ0 (qW0 C o fr' h') (fun h2=>jU0 P E C (qh0 C ih0 ih) all l fr' h2)) (zl0 C fr h o).1 h1))
  simp only [yb0]
  refine preK_ok (f:=fun fr1 h=>Zx0 P E C (qh0 C ih0 ih) all o (fun fr' h'=>jU0 P E C (qh0 C ih0 ih) all l fr' (qW0 C o fr' h')) fr1 (xpA C E.glob fr1 h o)) fun fr1 h=>?_
  unfold Zx0
  cases wanted all fr1 o with
  | none=>exact .self
  | some b =>
   cases b with
   | false=>exact xpK_ok (F:=fun h=>zE0 o fr1 (fun fr' h'=>jU0 P E C (qh0 C ih0 ih) all l fr' (qW0 C o fr' h')) undef h) fun h=>goK_ok fun fr h=>IH fr _ k
   | true=>exact snK_ok (fun fr h=>IH fr h k) fun h1=>yv1 (cn:=true) hT hr fun fr h=>IH fr _ k
 omit hT hr in theorem lookup_opL {o:Oper} {tm:T V} {h:Heap} {t:TypeId} {m key:Operand} {ok:Bool} (ho:o.op=.lookup t m key ok):qq0 P E.glob tm h o=o2 E.glob tm h m key (lookup P h t ok):=by
  have e:qx0 P E.glob tm h o=o2 E.glob tm h m key (lookup P h t ok):=by
   unfold qx0;rw [ho];rfl
  rw [← e]
  unfold qq0
  split
  ·rename_i t len ps e;rw [ho] at e;cases e
  ·rfl
theorem Jd0 (tm:T V) (h:Heap) (o:Oper) (k:Outc→β):Nr bot k (QN0 P E C Tb ih0 bot rec tm h o k) (qk0 P E (qh0 C ih0 ih) tm h o):=by
 unfold QN0 qk0
 have hok:=zS1 (P:=P) (C:=C) E.glob tm h o
 generalize Zb0 C P E.glob tm h o=r at hok
 cases r with
 | val v h1 =>
  rw [show qq0 P E.glob tm h o=.val v h1 from hok]
  exact .self
 | obl v h1 φ =>
  refine .need fun hφ=>?_
  rw [show qq0 P E.glob tm h o=.val v h1 from hok hφ]
  exact .self
 | skip h1 =>
  rw [show qq0 P E.glob tm h o=.skip h1 from hok]
  exact .self
 | no =>
  simp only
  cases qq0 P E.glob tm h o with
  | call f args h'=>exact (qr1 hT hr true f args h' _).then .self
  | yield l args h'=>exact (zp0 hT hr _ _).then .self
  | _=>exact .self
 omit hT hr in theorem operL_op {o:Oper} {tm:T V} {h:Heap} (hb:∀ t len ps,o.op≠.buildSlice t len ps):qq0 P E.glob tm h o=qx0 P E.glob tm h o:=by
  unfold qq0
  split
  ·rename_i t len ps e;exact absurd e (hb t len ps)
  ·rfl
theorem QZ1 (fn:FuncId) (tm:T V) (h:Heap) (o:Oper) (k:Outc→β):Nr bot k (XU0 P E C Tb ih0 bot rec fn tm h o k) (qk0 P E (qh0 C ih0 ih) tm h o):=by
 unfold XU0
 split
 ·rename_i t m key ok ho
  unfold qk0
  rw [lookup_opL (P:=P) (E:=E) ho,Zn0]
  generalize AM.ev E.glob tm m=o1
  cases o1 with
  | none=>exact .self
  | some mv =>
   simp only
   generalize AM.ev E.glob tm key=o2
   cases o2 with
   | none=>exact .self
   | some kv =>
    simp only
    rw [zY1]
    cases lookup P h t ok mv kv <;> exact .self
 ·rename_i t a ho
  have hd:=Jd0 (P:=P) (E:=E) (C:=C) hT hr tm h o k
  unfold jm1
  split
  ·rename_i r ver off hev
   split
   ·rename_i ver' ty sz pb l x hg
    split
    ·rename_i j hj
     cases hc:Nat.blt j sz with
     | false=>exact hd
     | true =>
      rw [Nat.blt_eq] at hc
      simp only [cond_true]
      split
      ·rename_i v hv
       refine .need fun ⟨e2,e3⟩=>?_
       subst e2;subst e3
       have e:qk0 P E (qh0 C ih0 ih) tm h o=.val v h:=by
        unfold qk0
        rw [(KK0 (lit:=false) ho).2,Zm0,hev]
        simp only
        rw [load_last hg hc,hv]
        rfl
       rw [e];exact .self
      ·exact hd
    ·exact hd
   ·exact hd
  ·exact hd
 ·rename_i t a y ho
  have hd:=Jd0 (P:=P) (E:=E) (C:=C) hT hr tm h o k
  unfold jn1
  split
  ·rename_i r ver off hev
   split
   ·rename_i ver' ty sz pb l x hg
    split
    ·rename_i v hy
     split
     ·rename_i j hj
      cases hc:(Nat.blt j sz&&v.flat&&Nat.beq (List.len v.cells) (size P t)&&Nat.ble 1 (size P t)) with
      | false=>exact hd
      | true =>
       simp only [Bool.and_eq_true,Nat.blt_eq,Nat.beq_eq,Nat.ble_eq] at hc
       obtain ⟨⟨⟨c2,c3⟩,c4⟩,c5⟩:=hc
       simp only [cond_true]
       split
       ·rename_i x' hx'
        refine .need fun ⟨e2,e3,e4⟩=>?_
        subst e2;subst e3
        have e:qk0 P E (qh0 C ih0 ih) tm h o=.val undef (h.set r (.rowS ver ty sz pb l x')):=by
         unfold qk0
         rw [operL_op (fun _ _ _ e=>by rw [ho] at e;cases e),show qx0 P E.glob tm h o=ye0 P E.glob tm h t a y by unfold qx0;rw [ho];rfl]
         unfold ye0
         rw [hev]
         simp only [hy]
         rw [store_last hg c2 c3 c4 c5 e4 hx']
        rw [e];exact .self
       ·exact hd
     ·exact hd
    ·exact hd
   ·exact hd
  ·exact hd
 ·rename_i c ho
  have hd:=Jd0 (P:=P) (E:=E) (C:=C) hT hr tm h o k
  unfold appD
  split
  ·rename_i b hb
   split
   ·split
    ·rename_i x y hm
     split
     ·rename_i t u hty
      split
      ·rename_i sz es
       split
       ·rename_i e he
        cases hc:(C.apf fn&&zi0 P u&&JX0 x&&Nat.beq sz (size P e)&&!(Nat.beq (size P e) 0)) with
        | false=>exact hd
        | true =>
         simp only [cond_true]
         cases hes:qb0 es with
         | false=>exact hd
         | true =>
          have hes:es=[]:=by cases es with
           | nil=>rfl
           | cons _ _=>cases hes
          subst hes
          simp only [Bool.and_eq_true,Bool.not_eq_true',Nat.beq_eq] at hc
          obtain ⟨⟨⟨⟨_,c1⟩,c2⟩,c3⟩,c4⟩:=hc
          subst c3
          have e3:zq0 P E.glob tm h c=.val x h:=by
           rw [JK0,hm]
           simp only [hb,hty]
           change (bif zi0 P u then append P t h x (.osl (size P e) []) else _)=_
           rw [c1]
           simp only [cond_true]
           have hn0:newS P h (size P e) (.osl (size P e) [])=some []:=by
            change (bif Nat.beq (size P e) (size P e) then some [] else none)=_
            rw [show Nat.beq (size P e) (size P e)=true by simp];rfl
           rw [XA0 he (KW0 hn0) c4]
           revert c2
           cases x <;> intro c2 <;> first | rfl | cases c2
          have e:qk0 P E (qh0 C ih0 ih) tm h o=.val x h:=by
           unfold qk0
           rw [operL_op (fun _ _ _ e=>by rw [ho] at e;cases e),show qx0 P E.glob tm h o=zq0 P E.glob tm h c by unfold qx0;rw [ho];rfl,e3]
          rw [e];exact .self
       ·exact hd
      ·exact hd
     ·exact hd
    ·exact hd
   ·exact hd
  ·exact hd
 ·exact Jd0 hT hr tm h o k
 omit hT hr in def InvD (P:Program) (E:Env) (ihr:Task→Res) (hs:List Hp) (h:Heap) (rs:List Rc) (ix:List Nat):Prop :=
  ∀ (i:Nat) (r:Rc) (j:Nat),rs[i]?=some r→ix[i]?=some j→j≤hs.length∧(j=hs.length→∃ h',qk0 P E ihr r.tm h r.o=.val r.v h')∧∀ e,j<hs.length→hs[hs.length-1-j]?=some e→∃ h',qk0 P E ihr r.tm e.h r.o=.val r.v h'
 omit hT hr in theorem InvD.write {ihr:Task→Res} {hs:List Hp} {h h':Heap} {rs:List Rc} {ix:List Nat} (hi:InvD P E ihr hs h rs ix) (e:Hp) (he:e.h=h):InvD P E ihr (e::hs) h' rs ix:=fun i r j p q=>by
  obtain ⟨h1,h2,h3⟩:=hi i r j p q
  refine ⟨by simp only [List.length_cons];omega,fun w=>by simp only [List.length_cons] at w;omega,fun x hx hx'=>?_⟩
  simp only [List.length_cons,Nat.add_sub_cancel] at hx hx'
  rcases Nat.lt_or_ge j hs.length with w | w
  ·refine h3 x w ?_
   rw [show hs.length-j=(hs.length-1-j)+1 by omega,List.getElem?_cons_succ] at hx'
   exact hx'
  ·have:j=hs.length:=by omega
   subst this
   rw [Nat.sub_self] at hx'
   simp at hx'
   subst hx'
   rw [he];exact h2 rfl
 omit hT hr in theorem InvD.read {ihr:Task→Res} {hs:List Hp} {h:Heap} {rs:List Rc} {ix:List Nat} (hi:InvD P E ihr hs h rs ix) (r:Rc) (hd:∃ h',qk0 P E ihr r.tm h r.o=.val r.v h'):InvD P E ihr hs h (r::rs) (List.len hs::ix):=fun i r' j p q=>by
  cases i with
  | zero =>
   simp at p q
   subst p;subst q
   rw [List.len_eq]
   exact ⟨Nat.le_refl _,fun _=>hd,fun x w=>absurd w (Nat.lt_irrefl _)⟩
  | succ i=>exact hi i r' j (by simpa using p) (by simpa using q)
 omit hT hr in def EndD (P:Program) (E:Env) (ihr:Task→Res) (r:DR) (ix:List Nat):Prop :=
  match r with
  | .done _ _ hps rcs _=>∀ (i:Nat) (r:Rc) (j:Nat) (e:Hp),rcs[i]?=some r→ix[i]?=some j→j<hps.length→hps[hps.length-1-j]?=some e→∃ h',qk0 P E ihr r.tm e.h r.o=.val r.v h'
  | .stuck _=>True
 omit hT hr in def NrD (P:Program) (E:Env) (ihr:Task→Res) (bot:β) (kk:DR→List Nat→β) (e:β) (r:DR):Prop:=e=bot∨∃ ix,e=kk r ix∧EndD P E ihr r ix
 omit hT hr in theorem NrD.stuck {ihr:Task→Res} {kk:DR→List Nat→β} {o:Option Oper} {ix:List Nat}:NrD P E ihr bot kk (kk (.stuck o) ix) (.stuck o):=.inr ⟨ix,rfl,trivial⟩
 omit hT hr in theorem dPutK_D {ihr:Task→Res} {o:Oper} {v:V} {fr:Fr} {next:Fr→β} {nextR:Fr→DR} {kk:DR→List Nat→β} {ix:List Nat} (hn:∀ fr,NrD P E ihr bot kk (next fr) (nextR fr)):NrD P E ihr bot kk (QL0 o v fr next (fun r=>kk r ix)) (jw0 o v fr nextR):=by
  unfold QL0 jw0
  rw [GM0]
  cases fr.put o.dst v with
  | none=>exact .stuck
  | some fr'=>exact hn fr'
 omit hT hr in theorem dValK_ok {ihr:Task→Res} {d:DOp} {next:Fr→Heap→Nat→List Hp→List Rc→Option Pn→List Nat→β} {nextR:DK} {kk:DR→List Nat→β} (hn:∀ fr h pb hs rs pan ix,InvD P E ihr hs h rs ix→NrD P E ihr bot kk (next fr h pb hs rs pan ix) (nextR fr h pb hs rs pan)) (fr:Fr) (h:Heap) (pb:Nat) (hs:List Hp) (rs:List Rc) (pan:Option Pn) (ix:List Nat) (hi:InvD P E ihr hs h rs ix) (r:Outc) (hr:qk0 P E ihr fr.tm h d.o=r) :
  NrD P E ihr bot kk (Jc0 E d next fr h pb hs rs pan ix kk r) (dVal E d nextR fr h pb hs rs pan r):=by
  unfold Jc0 dVal
  cases r with
  | val v h' =>
   simp only
   cases d.w with
   | true =>
    cases zh0 pan with
    | true=>exact dPutK_D (o:=d.o) (v:=v) (fr:=fr) (ix:=ix) fun fr'=>hn fr' h' d.b (⟨pb,h,some d.i⟩::hs) rs pan ix (hi.write ⟨pb,h,some d.i⟩ rfl)
    | false=>exact .stuck
   | false =>
    refine dPutK_D fun fr'=>hn _ _ _ _ _ _ _ ?_
    cases zJ0 E d.o.op with
    | true=>exact hi
    | false=>exact hi.read ⟨d.o,d.i,d.b,fr.tm,v⟩ ⟨h',hr⟩
  | panic v h' =>
   simp only
   cases (d.w&&zh0 pan) with
   | true=>exact hn _ _ _ _ _ _ _ (hi.write _ rfl)
   | false=>exact .stuck
  | stuck=>exact .stuck
theorem QU1 (all:List Oper) (l:List DOp):∀ (fr:Fr) (h:Heap) (pb:Nat) (hs:List Hp) (rs:List Rc) (pan:Option Pn) (ix:List Nat) (kk:DR→List Nat→β),InvD P E (qh0 C ih0 ih) hs h rs ix→NrD P E (qh0 C ih0 ih) bot kk (ZS0 P E C Tb ih0 bot rec all l fr h pb hs rs pan ix kk) (yv0 P E (qh0 C ih0 ih) all l fr h pb hs rs pan):=by
 induction l with
 | nil =>
  intro fr h pb hs rs pan ix kk hi
  refine .inr ⟨ix,rfl,?_⟩
  change EndD P E (qh0 C ih0 ih) (.done fr h (bif zh0 pan then ⟨pb,h,none⟩::hs else hs) rs pan) ix
  intro i r j e p q w hx
  cases hp:zh0 pan with
  | true =>
   rw [hp] at w hx
   exact (hi.write (h':=h) ⟨pb,h,none⟩ rfl i r j p q).2.2 e w hx
  | false =>
   rw [hp] at w hx
   exact (hi i r j p q).2.2 e w hx
 | cons d l IH =>
  intro fr h pb hs rs pan ix kk hi
  change NrD P E (qh0 C ih0 ih) bot kk (XS0 P E C Tb ih0 bot rec all d (fun fr h pb hs rs pan ix=>ZS0 P E C Tb ih0 bot rec all l fr h pb hs rs pan ix kk) fr h pb hs rs pan ix kk) (ZT0 P E (qh0 C ih0 ih) all d (yv0 P E (qh0 C ih0 ih) all l) fr h pb hs rs pan)
  unfold XS0 ZT0
  cases Yq0 pan d.b with
  | true=>exact IH _ _ _ _ _ _ _ _ hi
  | false =>
   simp only [cond_false]
   cases wanted all fr d.o with
   | none=>exact .stuck
   | some t =>
    cases t with
    | true =>
     simp only [cond_true]
     rcases QZ1 (C:=C) hT hr fr.fn fr.tm h d.o (fun r=>Jc0 E d (fun fr h pb hs rs pan ix=>ZS0 P E C Tb ih0 bot rec all l fr h pb hs rs pan ix kk) fr h pb hs rs pan ix kk r) with q | q
     ·exact .inl q
     ·rw [q]
      exact dValK_ok (fun fr h pb hs rs pan ix hi=>IH fr h pb hs rs pan ix kk hi) fr h pb hs rs pan ix hi _ rfl
    | false =>
     simp only [cond_false]
     cases d.w with
     | true =>
      cases zh0 pan with
      | true=>exact dPutK_D (o:=d.o) (v:=undef) (fr:=fr) (ix:=ix) fun fr'=>IH fr' h d.b (⟨pb,h,some d.i⟩::hs) rs pan ix kk (hi.write ⟨pb,h,some d.i⟩ rfl)
      | false=>exact .stuck
     | false=>exact dPutK_D (o:=d.o) (v:=undef) (fr:=fr) (ix:=ix) fun fr'=>IH fr' h pb hs rs pan ix kk hi
 omit hT hr in theorem orD_self {b:Bool} {p:Prop} (h:p):orD b p=true:=by
  unfold orD
  cases b with
  | true=>rfl
  | false=>exact @decide_eq_true p (Classical.propDecidable p) h
 omit hT hr in theorem ckOneK_ok {ihr:Task→Res} (r:Rc) (e:Hp) (x:β):QK0 P E C bot r e x=bot∨(QK0 P E C bot r e x=x∧yu0 P E ihr r e=true):=by
  unfold QK0 yu0
  cases tb e.pb r.i with
  | true=>exact .inr ⟨rfl,rfl⟩
  | false =>
   cases yY0 r.b e.nx with
   | true=>exact .inr ⟨rfl,rfl⟩
   | false =>
    simp only [cond_false]
    unfold qz1
    split
    ·rename_i t m key ok ho
     unfold qk0
     rw [lookup_opL (P:=P) (E:=E) ho,Zn0]
     generalize AM.ev E.glob r.tm m=o1
     cases o1 with
     | none=>exact .inl rfl
     | some mv =>
      simp only
      generalize AM.ev E.glob r.tm key=o2
      cases o2 with
      | none=>exact .inl rfl
      | some kv =>
       simp only
       rcases Qo0 (bot:=bot) (φ:=lookup P e.h t ok mv kv=some r.v) (x:=x) with q | ⟨hv,q⟩
       ·exact .inl q
       ·rw [q,hv];exact .inr ⟨rfl,orD_self rfl⟩
    unfold qA1
    have hok:=zS1 (P:=P) (C:=C) E.glob r.tm e.h r.o
    unfold qk0
    generalize Zb0 C P E.glob r.tm e.h r.o=q at hok
    cases q with
    | val v h1 =>
     rw [show qq0 P E.glob r.tm e.h r.o=.val v h1 from hok]
     simp only
     rcases Qo0 (bot:=bot) (φ:=r.v=v) (x:=x) with q | ⟨hv,q⟩
     ·exact .inl q
     ·rw [q];exact .inr ⟨rfl,orD_self hv⟩
    | obl v h1 φ =>
     simp only
     rcases Qo0 (bot:=bot) (φ:=φ) (x:=need bot (r.v=v) x) with q | ⟨hφ,q⟩
     ·exact .inl q
     ·rw [q,show qq0 P E.glob r.tm e.h r.o=.val v h1 from hok hφ]
      rcases Qo0 (bot:=bot) (φ:=r.v=v) (x:=x) with q | ⟨hv,q⟩
      ·exact .inl q
      ·rw [q];exact .inr ⟨rfl,orD_self hv⟩
    | skip h1 =>
     rw [show qq0 P E.glob r.tm e.h r.o=.skip h1 from hok]
     simp only
     rcases Qo0 (bot:=bot) (φ:=r.v=undef) (x:=x) with q | ⟨hv,q⟩
     ·exact .inl q
     ·rw [q];exact .inr ⟨rfl,orD_self hv⟩
    | no=>exact .inl rfl
 omit hT hr in theorem ckOne_here {ihr:Task→Res} {r:Rc} {e:Hp} (h:∃ h',qk0 P E ihr r.tm e.h r.o=.val r.v h'):yu0 P E ihr r e=true:=by
  obtain ⟨h',hd⟩:=h
  unfold yu0
  rw [hd]
  change (bif tb e.pb r.i then true else bif yY0 r.b e.nx then true else orD (veq depth r.v r.v) (r.v=r.v))=true
  rw [orD_self (b:=veq depth r.v r.v) (p:=r.v=r.v) rfl]
  cases tb e.pb r.i <;> cases yY0 r.b e.nx <;> rfl
 omit hT hr in theorem ckRowK_ok {ihr:Task→Res} (r:Rc) (j:Option Nat) (x:β):∀ (hps:List Hp),(∀ q e,j=some q→q<hps.length→hps[hps.length-1-q]?=some e→∃ h',qk0 P E ihr r.tm e.h r.o=.val r.v h')→yl0 P E C bot r j hps x=bot∨(yl0 P E C bot r j hps x=x∧qP0 (yu0 P E ihr r) hps=true):=by
  intro hps
  induction hps with
  | nil=>intro _;exact .inr ⟨rfl,rfl⟩
  | cons e l IH =>
   intro hj
   have IH':=IH fun q e' hq hl he=>hj q e' hq (by simp only [List.length_cons];omega) (by
    simp only [List.length_cons,Nat.add_sub_cancel]
    rw [show l.length-q=(l.length-1-q)+1 by omega,List.getElem?_cons_succ];exact he)
   change (bif yp0 j (some (List.len l)) then yl0 P E C bot r j l x else QK0 P E C bot r e (yl0 P E C bot r j l x))=bot∨((bif yp0 j (some (List.len l)) then yl0 P E C bot r j l x else QK0 P E C bot r e (yl0 P E C bot r j l x))=x∧(bif yu0 P E ihr r e then qP0 (yu0 P E ihr r) l else false)=true)
   cases hb:yp0 j (some (List.len l)) with
   | true =>
    have hj2:=JM0 _ _ hb
    rw [List.len_eq] at hj2
    have:=ckOne_here (hj l.length e hj2 (by simp) (by simp))
    rw [this]
    exact IH'
   | false =>
    simp only [cond_false]
    rcases ckOneK_ok (C:=C) (ihr:=ihr) r e (yl0 P E C bot r j l x) with h | ⟨h1,h2⟩
    ·exact .inl h
    ·rw [h1,h2]
     exact IH'
 omit hT hr in theorem ckAllK_ok {ihr:Task→Res} (hps:List Hp) (x:β) (rcs:List Rc):∀ (ix:List Nat),(∀ (i:Nat) (r:Rc) (j:Nat) (e:Hp),rcs[i]?=some r→ix[i]?=some j→j<hps.length→hps[hps.length-1-j]?=some e→∃ h',qk0 P E ihr r.tm e.h r.o=.val r.v h')→QJ0 P E C bot hps rcs x ix=bot∨(QJ0 P E C bot hps rcs x ix=x∧Qd0 P E ihr hps rcs=true):=by
  induction rcs with
  | nil=>intro ix _;exact .inr ⟨rfl,rfl⟩
  | cons r l IH =>
   intro ix hx
   have key:∀ j ix',(∀ q e,j=some q→q<hps.length→hps[hps.length-1-q]?=some e→∃ h',qk0 P E ihr r.tm e.h r.o=.val r.v h')→(∀ (i:Nat) (r:Rc) (j:Nat) (e:Hp),l[i]?=some r→ix'[i]?=some j→j<hps.length→hps[hps.length-1-j]?=some e→∃ h',qk0 P E ihr r.tm e.h r.o=.val r.v h')→yl0 P E C bot r j hps (QJ0 P E C bot hps l x ix')=bot∨(yl0 P E C bot r j hps (QJ0 P E C bot hps l x ix')=x∧Qd0 P E ihr hps (r::l)=true):=fun j ix' h1 h2=>by
    rcases ckRowK_ok (C:=C) r j (QJ0 P E C bot hps l x ix') hps h1 with h | ⟨h3,h4⟩
    ·exact .inl h
    ·rcases IH ix' h2 with h | ⟨h5,h6⟩
     ·left;rw [h3,h]
     ·right
      refine ⟨h3.trans h5,?_⟩
      change (bif qP0 (yu0 P E ihr r) hps then Qd0 P E ihr hps l else false)=true
      rw [h4,h6];rfl
   cases ix with
   | nil=>exact key none [] (fun q e hq=>by cases hq) (fun i r' j e _ q=>by simp at q)
   | cons j ix=>exact key (some j) ix (fun q e hq hl he=>by cases hq;exact hx 0 r j e rfl rfl hl he) (fun i r' j' e p q=>hx (i+1) r' j' e (by simpa using p) (by simpa using q))
theorem Ze1 (all:List Oper) (fr:Fr) (h:Heap) (k:Res→β):Nr bot k (XW0 P E C Tb ih0 bot rec all fr h k) (YB0 P E (qh0 C ih0 ih) all fr h):=by
 unfold XW0 YB0
 generalize (bif P.follows .mixedOrders then Qf0 E all else none)=o1
 cases o1 with
 | none=>exact .self
 | some l =>
  change Nr bot k (ZS0 P E C Tb ih0 bot rec all l fr h 0 [] [] none [] (fun r ix=>Jf0 P E C bot l fr.fn k r ix)) (Je0 P E (qh0 C ih0 ih) l fr.fn (yv0 P E (qh0 C ih0 ih) all l fr h 0 [] [] none))
  rcases QU1 (C:=C) hT hr all l fr h 0 [] [] none [] (fun r ix=>Jf0 P E C bot l fr.fn k r ix) (fun i r j p=>by simp at p) with q | ⟨ix,q,hE⟩
  ·exact .inl q
  rw [q]
  generalize yv0 P E (qh0 C ih0 ih) all l fr h 0 [] [] none=r at hE
  unfold Jf0 Je0
  cases r with
  | stuck o=>exact .self
  | done fr' h' hps rcs pan =>
   simp only
   cases yX0 l with
   | true=>cases pan <;> exact .self
   | false =>
    simp only [cond_false,Bool.false_or]
    have hE':∀ (i:Nat) (r:Rc) (j:Nat) (e:Hp),rcs[i]?=some r→ix[i]?=some j→j<hps.length→hps[hps.length-1-j]?=some e→∃ h',qk0 P E (qh0 C ih0 ih) r.tm e.h r.o=.val r.v h':=hE
    clear hE
    rcases ckAllK_ok (C:=C) (P:=P) (E:=E) (bot:=bot) (ihr:=qh0 C ih0 ih) hps (match pan with
     | none=>k (.code .normal fr' h')
     | some p=>k (.code (.panic p.v) (zz0 l fr') p.h)) rcs ix hE' with q | ⟨q1,q2⟩
    ·exact .inl q
    ·rw [q1,q2]
     cases pan <;> exact .self
theorem jh1 (b:Code) (k:Res→β) (r:Res):Nr bot k (seqK C Tb ih0 bot rec b k r) (jV0 (qh0 C ih0 ih) b r):=by
 cases r with
 | code e fr h=>cases e <;> first | exact zp0 (C:=C) hT hr (.code b fr h) k | exact .self
 | _=>exact .self
theorem Kq1 (b:Code) (k:Res→β) (r:Res):Nr bot k (seqL C Tb ih0 bot rec b k r) (jV0 (ihL C (qh0 C ih0 ih)) b r):=by
 cases r with
 | code e fr h=>cases e <;> first | exact (zp0 (C:=C) hT hr (.code b fr h) (fun r=>Zg0 C bot h.n (C.live fr.fn b) k r)).then (KS0 _ _ _ _) | exact .self
 | _=>exact .self
theorem Zk1 (lid:Nat) (fr:Fr) (k:Res→β) (r:Res):Nr bot k (Jg0 C Tb ih0 bot rec lid fr k r) (endLoop (qh0 C ih0 ih) lid fr r):=by
 cases r with
 | ret v h =>
  unfold Jg0 endLoop
  simp only
  cases h.get lid with
  | loop st pending fn n tm ps a b d =>
   cases st <;> cases pending <;> first | exact zp0 (C:=C) hT hr (.code _ fr _) k | exact .self
  | _=>exact .self
 | _=>exact .self
theorem XI1 (f:Operand) (params:Array Tmp) (assign body:Code) (fr:Fr) (h:Heap) (k:Res→β):Nr bot k (Go0 P E C Tb ih0 bot rec f params assign body fr h k) (YC0 P E (qh0 C ih0 ih) f params assign body fr h):=by
 unfold Go0 YC0
 generalize ev E.glob fr.tm f=o1
 cases o1 with
 | none=>exact .self
 | some fv =>
  simp only
  generalize QM0 fr h=o2
  cases o2 with
  | none=>exact .self
  | some p =>
   obtain ⟨d,marks,h1⟩:=p
   simp only
   generalize ju0 P (h1.new (.loop .ready .none fr.fn fr.n fr.tm params.toList assign body d)) fv [.func (.yield h1.n) [] []]=o3
   cases o3 with
   | call g args h2 =>
    simp only
    cases E.shared g with
    | true=>exact (zp0 (C:=C) hT hr (.call g args h2) (fun r=>Jg0 C Tb ih0 bot rec h1.n { fr with marks:=marks } k r)).then (Zk1 hT hr _ _ _ _)
    | false=>exact .self
   | _=>exact .self
theorem QL1 (c:Code) (fr:Fr) (h:Heap) (k:Res→β):Nr bot k (codeK P E C Tb ih0 bot rec c fr h k) (Xn0 P E C (qh0 C ih0 ih) (.code c fr h)):=by
 cases c with
 | region id ops draw =>
  cases draw with
  | true=>exact Ze1 hT hr ops.toList fr h k
  | false=>exact JX1 hT hr _ _ _ _ _
 | seq a b=>exact (zp0 (C:=C) hT hr (.code a fr h) (fun r=>seqK C Tb ih0 bot rec b k r)).then (jh1 hT hr b k _)
 | cond c a b =>
  change Nr bot k (match ev E.glob fr.tm c with
   | some (.bool t)=>Bool.rec (qM0 C Tb ih0 bot rec (.code b fr h) k) (qM0 C Tb ih0 bot rec (.code a fr h) k) t
   | _=>k (.none fr.fn .none)) (Yz0 E (qh0 C ih0 ih) c a b fr h)
  unfold Yz0
  generalize ev E.glob fr.tm c=o1
  cases o1 with
  | none=>exact .self
  | some v =>
   cases v with
   | bool t=>cases t <;> exact zp0 (C:=C) hT hr (.code _ fr h) k
   | _=>exact .self
 | block id b=>exact (zp0 (C:=C) hT hr (.code b fr h) (fun r=>k (Yx0 id r))).then .self
 | loop b=>exact (zp0 (C:=C) hT hr (.code b fr h) (fun r=>Zg0 C bot h.n (C.live fr.fn b) (fun r=>seqL C Tb ih0 bot rec (.loop b) k r) r)).then ((KS0 _ _ _ _).then (Kq1 hT hr (.loop b) k _))
 | rangeFunc f params assign body=>exact XI1 hT hr _ _ _ _ _ _ _
 | scope b=>exact zp0 (C:=C) hT hr (.code b fr h) k
 | _=>exact .self
theorem Kc1 (f:FuncId) (fn:Func) (fr:Fr) (l:List (FuncId×List V)):∀ (p:Option V) (h:Heap) (k:Res→β),Nr bot k (yX1 P C Tb ih0 bot rec f fn fr l p h k) (Yv0 P (qh0 C ih0 ih) f fn fr l p h):=by
 induction l with
 | nil=>intro p h k;exact .self
 | cons d l IH =>
  intro p h k
  refine (zp0 (C:=C) hT hr (.dcall d.1 d.2 p h) _).then ?_
  change Nr bot k _ (match qh0 C ih0 ih (.dcall d.1 d.2 p h) with
   | .dret _ h'=>Yv0 P (qh0 C ih0 ih) f fn fr l .none h'
   | .none a b=>.none a b
   | _=>.none f .none)
  cases qh0 C ih0 ih (.dcall d.1 d.2 p h) with
  | dret _ h'=>exact IH _ _ _
  | _=>exact .self
theorem Zj1 (f:FuncId) (fn:Func) (k:Res→β) (r:Res):Nr bot k (Kb0 P C Tb ih0 bot rec f fn k r) (Ka0 P (qh0 C ih0 ih) f fn r):=by
 have body:∀ fr p h,Nr bot k (ZU0 P C Tb ih0 bot rec f fn fr p h k) (Qg0 P (qh0 C ih0 ih) f fn fr p h):=fun fr p h=>by
  unfold ZU0 Qg0
  generalize Za0 fr.marks h=o1
  cases o1 with
  | none=>exact .self
  | some h'=>exact Kc1 hT hr _ _ _ _ _ _ _
 cases r with
 | code e fr h=>cases e <;> first | exact body _ _ _ | exact .self
 | _=>exact .self
theorem Qz1 (f:FuncId) (args:List V) (h:Heap) (k:Res→β):Nr bot k (XI0 P C Tb ih0 bot rec f args h k) (Yy0 P E (qh0 C ih0 ih) f args h):=by
 unfold XI0 Yy0
 generalize P.funcs[f]?=o1
 cases o1 with
 | none=>exact .self
 | some fn =>
  simp only
  cases fn.body with
  | none =>
   simp only
   generalize ZW0 P fn args h=o2
   cases o2 <;> exact .self
  | some body =>
   simp only
   cases Nat.ble (List.len args) fn.ntmps with
   | false=>exact .self
   | true=>exact (zp0 (C:=C) hT hr (.code body ⟨f,fn.ntmps,zX0 args 0 (zP0 (zR0 fn.ntmps)),[],[],.none,.none,false⟩ h) (fun r=>Kb0 P C Tb ih0 bot rec f fn k r)).then (Zj1 hT hr f fn k _)
theorem Qm1 (l:Nat) (body:Code) (k:Res→β) (r:Res):Nr bot k (YT0 C Tb ih0 bot rec l body k r) (GE0 (qh0 C ih0 ih) l body r):=by
 cases r with
 | code e fr h =>
  cases e with
  | normal =>
   unfold YT0 GE0
   simp only
   cases h.get l with
   | loop st pend fn n tm ps a b d=>cases st <;> first | exact zp0 (C:=C) hT hr (.code body fr (h.set l (.loop .busy pend fn n tm ps a b d))) k | exact .self
   | _=>exact .self
  | _=>exact .self
 | _=>exact .self
theorem Gz1 (l:Nat) (args:List V) (h:Heap) (k:Res→β):Nr bot k (GT0 C Tb ih0 bot rec l args h k) (YD0 (qh0 C ih0 ih) l args h):=by
 unfold GT0 YD0
 cases h.get l with
 | loop st pend fn n tm ps assign body d =>
  simp only
  generalize YE0 ps n args tm=o1
  cases o1 with
  | none=>exact .self
  | some tm'=>exact (zp0 (C:=C) hT hr (.code assign ⟨fn,n,tm',[],[],some l,.none,false⟩ h) (fun r=>YT0 C Tb ih0 bot rec l body (fun r2=>k (endRound l r2)) r)).then ((Qm1 hT hr l body (fun r2=>k (endRound l r2)) _).then .self)
 | _=>exact .self
theorem QX1 (f:FuncId) (args:List V) (p:Option V) (h:Heap) (k:Res→β):Nr bot k (XT0 P E C Tb ih0 bot rec f args p h k) (YA0 P E (qh0 C ih0 ih) f args p h):=by
 unfold XT0 YA0
 generalize P.funcs[f]?=o1
 cases o1 with
 | none=>exact .self
 | some fn =>
  simp only
  generalize fn.body=bd
  cases bd with
  | none=>exact .self
  | some c =>
   cases c with
   | seq a rest =>
    cases a with
    | region id ops draw =>
     cases draw with
     | true=>exact .self
     | false =>
      simp only
      generalize ops.toList=l0
      cases l0 with
      | nil=>exact .self
      | cons o l =>
       simp only
       cases (Qm0 o&&qb0 fn.results.toList&&Nat.ble (List.len args) fn.ntmps) with
       | false=>exact .self
       | true =>
        simp only [cond_true]
        generalize Fr.put ⟨f,fn.ntmps,zX0 args 0 (zP0 (zR0 fn.ntmps)),[],[],.none,.none,false⟩ o.dst (JN0 p)=o2
        cases o2 with
        | some fr1=>exact (JY1 hT hr (o::l) l fr1 h (fun r=>seqK C Tb ih0 bot rec rest (fun r2=>k (ZV0 f r2)) r)).then ((jh1 hT hr rest (fun r2=>k (ZV0 f r2)) _).then .self)
        | none=>exact .self
    | _=>exact .self
   | _=>exact .self
theorem KP1 (t:Task) (k:Res→β):Nr bot k (stepK P E C Tb ih0 bot rec t k) (Xn0 P E C (qh0 C ih0 ih) t):=by
 cases t with
 | code c fr h=>exact QL1 hT hr c fr h k
 | call f args h=>exact Qz1 (E:=E) hT hr f args h k
 | yield l args h=>exact Gz1 hT hr l args h k
 | dcall f args p h=>exact QX1 hT hr f args p h k
end ok
theorem evT_ok {P:Program} {E:Env} {C:Cf} {Tb:Task→Option Ent} {ih0:Task→Res} {β:Type} {bot:β} (hT:ZD0 ih0 Tb) (m:Nat):∀ t k,Nr bot k (evT P E C Tb ih0 bot m t k) (inn P E C ih0 m t):=by
 induction m with
 | zero=>intro t k;exact .self
 | succ m IH=>intro t k;exact KP1 hT IH t k
def exR {α ε:Type} (R:α→Res) (Q:ε→Res) (r:Res):PR α ε :=
 @dite (PR α ε) (∃ a,r=R a) (Classical.propDecidable _) (fun h=>.ok (Classical.choose h)) (fun _=>@dite (PR α ε) (∃ n,r=Q n) (Classical.propDecidable _) (fun h=>.er (Classical.choose h)) (fun _=>.no))
theorem Ki0 {α ε:Type} (s:List (α→Bool)) (R:List Bool→α→Res) (Q:ε→Res) (r:Res):exR (fun a=>R (s.map (· a)) a) Q r=.no∨Ent.res ⟨α,ε,exR (fun a=>R (s.map (· a)) a) Q r,s,R,Q⟩=r:=by
 unfold exR Ent.res
 simp only
 by_cases h1:∃ a,r=R (s.map (· a)) a
 ·rw [dif_pos h1];exact .inr (Classical.choose_spec h1).symm
 ·rw [dif_neg h1]
  by_cases h2:∃ n,r=Q n
  ·rw [dif_pos h2];exact .inr (Classical.choose_spec h2).symm
  ·rw [dif_neg h2];exact .inl rfl
theorem qI1 {α ε:Type} {R:α→Res} {Q:ε→Res} {r:Res} {e:Ent} (he:ent (exR R Q r) R Q=e):e.x=.no∨e.res=r:=by
 subst he
 exact Ki0 [] (fun _=>R) Q r
theorem Kc0 {α ε:Type} {s:α→Bool} {R:Bool→α→Res} {Q:ε→Res} {r:Res} {e:Ent} (he:ent2 (exR (fun a=>R (s a) a) Q r) s R Q=e):e.x=.no∨e.res=r:=by
 subst he
 exact Ki0 [s] (fun l=>R (l.getD 0 false)) Q r
theorem Zm1 {α ε:Type} {s t u w:α→Bool} {R:Bool→Bool→Bool→Bool→α→Res} {Q:ε→Res} {r:Res} {e:Ent} (he:ent16 (exR (fun a=>R (s a) (t a) (u a) (w a) a) Q r) s t u w R Q=e):e.x=.no∨e.res=r:=by
 subst he
 exact Ki0 [s,t,u,w] (fun l=>R (l.getD 0 false) (l.getD 1 false) (l.getD 2 false) (l.getD 3 false)) Q r
def PR.bnd {α ε β:Type} (bot:β) (x:PR α ε) (f:α→β) (g:ε→β):β:=PR.rec (motive:=fun _=>β) bot f g x
def evN (P:Program) (E:Env) (C:Cf) (Tb:Task→Option Ent) (ih0:Task→Res) {β:Type} (bot:β) (t:Task) (k:Res→β):β:=evT P E C Tb ih0 bot 64 t (fun r=>match r with
 | .none _ _=>bot
 | r=>finK C bot t k r)
theorem evN_ok {P:Program} {E:Env} {C:Cf} {Tb:Task→Option Ent} {n:Nat} {β:Type} {bot:β} (hT:ZD0 (rn P E C n) Tb) (t:Task) (k:Res→β):Nr bot k (evN P E C Tb (rn P E C n) bot t k) (rn P E C (n+1) t):=by
 refine (evT_ok hT 64 t _).then ?_
 generalize hr:inn P E C (rn P E C n) 64 t=r
 have e:rn P E C (n+1) t=finT C t r:=by rw [← hr];rfl
 rw [e]
 cases r with
 | none a b=>exact .inl rfl
 | _=>exact ZK1 t k _
end
end Go.AM
