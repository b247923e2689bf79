/-
  AN ABSTRACT MACHINE that runs a program over z81 data is sound against the model (a part of it). No condition but what each theorem says.
-/
import Derived.Test.YtejbaikaiifpaaaDoorLaysP4
namespace Go.AM
open Go.RowKit
variable {P:Program} {E:Env} {K:Fr→Heap→Prop} {X:Ex→Fr→Heap→Prop} {N:Nat}
def oneH (o:Obj):Heap:=⟨.n .e o .e,1⟩
theorem xs8 (o:Obj):(oneH o).get 0=o:=rfl
theorem y4 {h:Heap} {t:TypeId} {r ver off:Nat} {o:Obj} {v:V} (hg:h.get r=o) (hl:load P (oneH o) t (.ptr 0 ver off)=some v):load P h t (.ptr r ver off)=some v:=by
 unfold load at hl ⊢
 simp only at hl ⊢
 rw [hg];exact hl
theorem q27 {h:Heap} {t:TypeId} {r ver off:Nat} {o o':Obj} {v:V} (hg:h.get r=o) (hl:(match store P (oneH o) t (.ptr 0 ver off) v with | some h1=>some (h1.get 0) | none=>none)=some o'):store P h t (.ptr r ver off) v=some (h.set r o'):=by
 unfold store at hl ⊢
 simp only at hl ⊢
 rw [hg]
 rw [xs8] at hl
 cases o with
 | row ver' ty sz pub cap es =>
  simp only at hl ⊢
  cases hb:(Nat.beq ver ver'&&v.flat&&Nat.beq (List.len v.cells) (size P t)&&Nat.ble pub (Nat.div off sz)&&Nat.ble 1 (size P t)) with
  | false=>rw [hb] at hl;simp at hl
  | true =>
   rw [hb] at hl
   simp only [cond_true] at hl ⊢
   cases ha:List.at es (Nat.div off sz) with
   | none=>rw [ha] at hl;simp at hl
   | some e =>
    rw [ha] at hl
    simp only at hl ⊢
    cases hp:qr7 e (Nat.mod off sz) v.cells with
    | none=>rw [hp] at hl;simp at hl
    | some e' =>
     rw [hp] at hl
     simp only at hl ⊢
     have hl:=Option.some.inj hl
     rw [Heap.get_set,if_pos rfl] at hl
     rw [hl]
 | _=>simp at hl
theorem xh3 {h:Heap} {r v o:Nat} {ty sz pub:Nat} {cap:Option Nat} {es:List V} (hg:h.get r=.row v ty sz pub cap es):zg3 h (.ptr r v o) (.ptr r v o)=some true:=by
 unfold zg3
 simp only
 rw [hg]
 simp
noncomputable def x71 (E:Env) (all:List Oper) (i:Nat) (s:Fr):Option (TypeId×V×V×Option Tmp) :=
 match opAt all i s with
 | none=>none
 | some o=>match o.op with
  | .store t x y=>match ev E.glob s.tm x with
   | some a=>match ev E.glob s.tm y with
    | some v=>some (t,a,v,o.dst)
    | none=>none
   | none=>none
  | _=>none
theorem Wl.skipv {all:List Oper} {b:Fr} {L:List (Nat×V)} {h h1:Heap} {o:Oper} (i:Nat) (ks:List Nat) (L':List (Nat×V)) (ho:opAt all i (b.on L)=some o) (he:q36 (E.lit b.fn) P E.glob (b.on L).tm h o=.skip h1) (hp:sumP ks ((b.on L).put o.dst undef)=some L') (hk:Wl P E all (all.drop (i+1)) (b.on L') h1 K X N):Wl P E all (all.drop i) (b.on L) h K X N:=by
 obtain ⟨e,h2⟩:=qj9 ho
 obtain ⟨s1,hp1,hL⟩:=q14 hp
 rw [e]
 exact Wl.store h2 he hp1 (hk.weak (((SameB.on b L).trans (.put hp1)).keep hL))
theorem Wl.storeE {all:List Oper} {b:Fr} {L:List (Nat×V)} {h h1:Heap} {t:TypeId} {a v:V} {d:Option Tmp} (i:Nat) (ks:List Nat) (L':List (Nat×V)) (ho:x71 E all i (b.on L)=some (t,a,v,d)) (hv:AM.store P h t a v=some h1) (hp:sumP ks ((b.on L).put d undef)=some L') (hk:Wl P E all (all.drop (i+1)) (b.on L') h1 K X N):Wl P E all (all.drop i) (b.on L) h K X N:=by
 unfold x71 at ho
 split at ho
 ·cases ho
 ·rename_i o hoa
  split at ho
  ·rename_i t1 x y hop
   split at ho
   ·rename_i a1 hea
    split at ho
    ·rename_i v1 hev
     cases ho
     refine Wl.skipv i ks L' hoa ?_ hp hk
     rw [q00 (fun _ _ _ e=>by rw [hop] at e;cases e)]
     unfold oper
     rw [hop]
     change ql8 P E.glob (b.on L).tm h t x y=_
     unfold ql8
     rw [hea]
     simp only [hev,hv]
    ·cases ho
   ·cases ho
  ·cases ho
noncomputable def xo8 (all:List Oper) (i:Nat) (s:Fr):Bool :=
 match opAt all i s with
 | some _=>true
 | none=>false
noncomputable def xi3 (P:Program) (E:Env) (all:List Oper) (i:Nat) (s:Fr) (h:Heap):Rs :=
 match List.at all i with
 | some o=>(match o.op with
  | .buildSlice _ _ _=>.stuck
  | _=>oper P E.glob s.tm h o)
 | none=>.stuck
noncomputable def zr4 (all:List Oper) (i:Nat) (s:Fr) (v:V):Option Fr :=
 match List.at all i with
 | some o=>s.put o.dst v
 | none=>none
theorem Wl.opE {all:List Oper} {b:Fr} {L:List (Nat×V)} {h h1:Heap} (i:Nat) (x:Rs) (v:V) (ks:List Nat) (L':List (Nat×V)) (hw:xo8 all i (b.on L)=true) (he:xi3 P E all i (b.on L) h=x) (hx:x=.val v h1) (hp:sumP ks (zr4 all i (b.on L) v)=some L') (hk:Wl P E all (all.drop (i+1)) (b.on L') h1 K X N):Wl P E all (all.drop i) (b.on L) h K X N:=by
 unfold xo8 at hw
 split at hw
 ·rename_i o hoa
  have hat:List.at all i=some o:=by
   unfold opAt at hoa
   split at hoa
   ·cases hoa
   ·rename_i o' ho'
    split at hoa
    ·cases hoa;exact ho'
    ·cases hoa
  unfold xi3 at he
  unfold zr4 at hp
  rw [hat] at he hp
  have he:=he.trans hx
  simp only at he hp
  refine Wl.opv i ks L' hoa ?_ hp hk
  have hnb:∀ t len ps,o.op≠.buildSlice t len ps:=fun t len ps e=>by
   rw [e] at he;simp at he
  rw [q00 hnb]
  split at he
  ·cases he
  ·exact he
 ·cases hw
noncomputable def xv7 (all:List Oper) (i:Nat) (s:Fr):Bool :=
 match List.at all i with
 | some o=>qc2 all s o&&(match j9 all s o with
  | some true=>true
  | _=>false)
 | none=>false
noncomputable def x67 (P:Program) (E:Env) (all:List Oper) (i:Nat) (s:Fr) (h:Heap):Rs :=
 match List.at all i with
 | some o=>w9 P E.glob s.tm h o
 | none=>.stuck
noncomputable def xg5 (E:Env) (all:List Oper) (i:Nat):Bool :=
 match List.at all i with
 | some o=>q12 E o.op
 | none=>true
theorem Dl.opE {ih:Task→Res} {K:Fr→Heap→Prop} {all:List Oper} {b:Fr} {L:List (Nat×V)} {h h1 h2:Heap} (i:Nat) (x:Rs) (v:V) (ks:List Nat) (L':List (Nat×V)) (hw:xv7 all i (b.on L)=true) (he:x67 P E all i (b.on L) h=x) (hx:x=.val v h1) (hh:(bif xg5 E all i then h else h1)=h2) (hp:sumP ks (zr4 all i (b.on L) v)=some L') (hk:Dl P E ih all (all.drop (i+1)) (b.on L') h2 K):Dl P E ih all (all.drop i) (b.on L) h K:=by
 unfold xv7 at hw
 split at hw
 ·rename_i o hat
  simp only [Bool.and_eq_true] at hw
  obtain ⟨hkn,hw⟩:=hw
  split at hw
  ·rename_i hwt
   unfold x67 at he
   unfold zr4 at hp
   unfold xg5 at hh
   rw [hat] at he hp hh
   simp only at he hp hh
   obtain ⟨s1,hp1,hL⟩:=q14 hp
   rw [List.at_eq] at hat
   obtain ⟨hi,e⟩:=List.getElem?_eq_some_iff.1 hat
   rw [List.drop_eq_getElem_cons hi,e]
   refine Dl.one (S1:=s1) (h1:=h2) hkn ?_ (hk.weak (((SameB.on b L).trans (.put hp1)).keep hL))
   unfold dOne doOp
   rw [hwt,he.trans hx]
   simp only [hp1]
   rw [hh]
  ·cases hw
 ·cases hw
theorem xk5 {h:Heap} {r v o:Nat} {ob:Obj} (hg:h.get r=ob):z89 h r v o=z89 (oneH ob) 0 v o:=by
 unfold z89
 rw [hg];rfl
theorem x43 {h:Heap} {r v o:Nat} {u:TypeId} {ob:Obj} (hg:h.get r=ob):qf5 P h r v o u=qf5 P (oneH ob) 0 v o u:=by
 unfold qf5
 rw [hg];rfl
theorem za3 {h:Heap} {s d:TypeId} {r v o:Nat} {ob:Obj} (hg:h.get r=ob) (hl:convert P s d (oneH ob) (.ptr 0 v o)=some (.ptr 0 v o)):convert P s d h (.ptr r v o)=some (.ptr r v o):=by
 have e1:=xk5 (v:=v) (o:=o) hg
 have e2:∀ u,qf5 P h r v o u=qf5 P (oneH ob) 0 v o u:=fun u=>x43 hg
 unfold convert at hl ⊢
 cases hs:P.underlying s with
 | none=>rw [hs] at hl;cases hl
 | some a =>
  rw [hs] at hl
  simp only at hl ⊢
  cases hd:P.underlying d with
  | none=>rw [hd] at hl;cases hl
  | some b =>
   rw [hd] at hl
   simp only at hl ⊢
   split at hl
   ·rename_i u
    simp only [e2 u]
    obtain ⟨h1,_⟩:=x7 hl rfl
    rw [h1];rfl
   ·rename_i t
    simp only [e1]
    obtain ⟨h1,_⟩:=x7 hl rfl
    rw [h1];rfl
   ·cases hl
def ptrT (P:Program) (t:TypeId):Bool :=
 match P.underlying t with
 | some (.pointer e)=>(match P.info? e with
  | some _=>true
  | none=>false)
 | _=>false
theorem xu1 {h:Heap} {t:TypeId} {c:Bool} {r v o ty sz pub:Nat} {cap:Option Nat} {es:List V} (hg:h.get r=.row v ty sz pub cap es) (ht:ptrT P t=true):binOp P h t c .neq (.ptr r v o) (.ptr r v o)=some (.bool false):=by
 unfold ptrT at ht
 split at ht
 ·rename_i e hu
  split at ht
  ·rename_i i hi
   unfold binOp eqOp eqT
   simp only
   rw [hu]
   simp only [hi,xh3 hg]
   rfl
  ·cases ht
 ·cases ht
theorem za9 {h:Heap} {t u e:TypeId} {x:V} (ht:j3 P t=some e) (hu:q24 P u=true) (h1:size P e=1) (hx:x=.nils∨∃ r ver o n c,x=.sl r ver o n c):builtin P .append [t,u] h [x,.str []]=.val x h:=by
 change (bif q24 P u then AM.append P t h x (.str []) else .stuck)=_
 rw [hu]
 have e:q81 h (size P e) (.str [])=some []:=by rw [h1];rfl
 have:=qr8 (P:=P) (x:=x) ht e (by rw [h1];rfl)
 rw [cond_true,this]
 rcases hx with rfl | ⟨r,ver,o,n,c,rfl⟩ <;> rfl
theorem xc8 {h:Heap} {t u e:TypeId} {r ver n pub:Nat} {es new:List V} {y:V} (ht:j3 P t=some e) (hu:q24 P u=true) (hn:newS P h (size P e) y=some new) (h0:(Nat.beq (size P e) 0||!(qa2 P e))=false) (hg:h.get r=.row ver e (size P e) pub none es) (hne:new≠[]) (hnl:n=es.length) (hp:pub≤n) (h1:n+new.length≤1099511627776) (h2:(n+new.length)*P.bytesOf e≤1099511627776):builtin P .append [t,u] h [.sl r ver 0 n none,y]=.val (.sl r (Nat.succ ver) 0 (n+new.length) none) (h.set r (.row (Nat.succ ver) e (size P e) pub none (es++new))):=by
 have hk:=qv3 (P:=P) (t:=t) h (.sl r ver 0 n none) y hu
 unfold qr4 at hk
 rw [ht] at hk
 simp only [hn,h0,cond_false,hg] at hk
 have e1:(Nat.beq (size P e) (size P e)&&Nat.beq 0 0&&Nat.beq e e)=true:=by simp
 rw [e1] at hk
 exact hk ⟨trivial,hne,hnl,hp,h1,h2⟩
theorem xf2 {h:Heap} {t u e:TypeId} {new:List V} {y:V} (ht:j3 P t=some e) (hu:q24 P u=true) (hn:newS P h (size P e) y=some new) (h0:(Nat.beq (size P e) 0||!(qa2 P e))=false) (hne:new≠[]) (h1:new.length≤1099511627776) (h2:new.length*P.bytesOf e≤1099511627776):builtin P .append [t,u] h [.nils,y]=.val (.sl h.n 0 0 new.length none) (newRow h e (size P e) 0 none new):=by
 have hk:=qv3 (P:=P) (t:=t) h .nils y hu
 unfold qr4 at hk
 rw [ht] at hk
 simp only [hn,h0,cond_false] at hk
 exact hk ⟨hne,h1,h2⟩
theorem xy4 {h:Heap} {t ty r ver n sz pub:Nat} {cap:Option Nat} {es:List V} {s:List UInt8} (hg:h.get r=.row ver ty sz pub cap es) (hk:(match P.underlying t with | some (.pointer u)=>Nat.beq sz 1&&Nat.beq (size P ty) 1&&Nat.beq ty u | _=>false)=true) (hn:0<n) (hn2:n=es.length) (hr:n≤room) (hm:mapO qh8 es=some s):qu3 P h t (.ptr r ver 0) (.int .i64 (n:Int))=.val (.str s) (h.set r (.row ver ty sz (Nat.max pub n) cap es)):=by
 change (match h.get r with
   | .row ver' ty sz pub cap es =>
    (match P.underlying t with
    | some (.pointer u) =>
     bif Nat.beq ver ver'&&Nat.beq 0 0&&Nat.beq sz 1&&Nat.beq (size P ty) 1&&Nat.blt 0 n&&Nat.ble n (List.len es)&&Nat.ble n room&&Nat.beq ty u then
      match mapO qh8 (List.takeN es n) with
      | some s=>Rs.val (.str s) (h.set r (.row ver ty sz (Nat.max pub n) cap es))
      | none=>.stuck
     else .stuck
    | _=>.stuck)
   | _=>.stuck)=_
 rw [hg]
 simp only
 split at hk
 ·rename_i u hu
  simp only [Bool.and_eq_true] at hk
  have e:(Nat.beq ver ver&&Nat.beq 0 0&&Nat.beq sz 1&&Nat.beq (size P ty) 1&&Nat.blt 0 n&&Nat.ble n (List.len es)&&Nat.ble n room&&Nat.beq ty u)=true:=by
   simp only [Bool.and_eq_true,hk.1.1,hk.1.2,hk.2,Nat.beq_refl,Nat.blt_eq,Nat.ble_eq,List.len_eq,and_true]
   refine ⟨⟨⟨trivial,hn⟩,by omega⟩,hr⟩
  rw [e,cond_true,List.takeN_eq,hn2,List.take_length,hm]
 ·cases hk
theorem qd9 {ms:List Nat}:∀ {h:Heap},(∀ m,m∈ms→h.get m=.defs)→ms.Nodup→∃ h1,q55 ms h=some h1∧h1.n=h.n∧∀ r,r∉ms→h1.get r=h.get r:=by
 induction ms with
 | nil=>intro h _ _;exact ⟨h,rfl,rfl,fun _ _=>rfl⟩
 | cons m ms IH =>
  intro h hm hn
  rw [List.nodup_cons] at hn
  have e:q55 (m::ms) h=q55 ms (h.set m .dead):=by
   change (match h.get m with | .defs=>q55 ms (h.set m .dead) | _=>none)=_
   rw [hm m (by simp)]
  obtain ⟨h1,k1,k2,k3⟩:=IH (h:=h.set m .dead) (fun q hq=>by
   rw [Heap.get_set,if_neg (fun e=>hn.1 (by rw [e];exact hq))]
   exact hm q (by simp [hq])) hn.2
  refine ⟨h1,by rw [e,k1],k2.trans (Heap.n_set _ _ _),fun r hr=>?_⟩
  rw [k3 r (fun q=>hr (by simp [q])),Heap.get_set,if_neg (fun e=>hr (by simp [e]))]
theorem z26 {fn:Func} {a b:Tmp} {t u:TypeId} {s:Fr} {h:Heap} {p q x y:V} (hr:fn.results=#[.cell a t,.cell b u]) (hp:s.at' a=p) (hq:s.at' b=q) (h1:load P h t p=some x) (h2:load P h u q=some y):qi0 P fn s h=some (.tup [x,y]):=by
 subst hp hq
 unfold qi0 results
 rw [hr]
 have e1:qo3 P s h (.cell a t)=some x:=h1
 have e2:qo3 P s h (.cell b u)=some y:=h2
 have:mapO (qo3 P s h) [.cell a t,.cell b u]=some [x,y]:=by
  unfold mapO
  simp only [e1,e2]
 simp only [this]
theorem q34 (h:Heap) (ty sz p:Nat) (c:Option Nat) (es:List V) (q:Nat):(newRow h ty sz p c es).get q=if h.n=q then .row 0 ty sz p c es else h.get q:=Heap.get_new _ _ _
theorem qh5 (h:Heap) (ty sz p:Nat) (c:Option Nat) (es:List V):(newRow h ty sz p c es).n=h.n+1:=Heap.n_new _ _
theorem Cx.mono {f:FuncId} {args:List V} {h:Heap} {R R':V→Heap→Prop} (hc:Cx P E f args h R) (hr:∀ v h',R v h'→R' v h'):Cx P E f args h R':=fun hF _ _ _ _ cs us hW hG hs=>by
 obtain ⟨v,h',h1,h2⟩:=hc hF cs us hW hG hs
 exact ⟨v,h',hr _ _ h1,h2⟩
theorem Cx.args {f:FuncId} {gs gs':List V} {h:Heap} {R':V→Heap→Prop} (hw:Wks gs gs') (hc:Cx P E f gs' h R'):Cx P E f gs h R':=by
 intro hF _ _ _ _ cs us hW hG hus
 refine hc hF cs us hW hG ⟨hus.1.trans hw.1,fun i v y p q=>?_⟩
 obtain ⟨x,hx⟩:=z9 gs i (by rw [hw.1];exact q9 q)
 exact hw.2 i x y hx q _ v (hus.2 i v x p hx)
theorem Bs.osl {x:V} {l:List UInt8} (h:Bs x l):Wk x (.osl 1 (l.map bV)):=by
 rcases h with ⟨rfl,rfl⟩ | rfl
 ·exact .nils 1
 ·exact .gsl
theorem Cx.monoE {f:FuncId} {args:List V} {h h':Heap} {R R':V→Heap→Prop} (hh:h=h') (hc:Cx P E f args h' R) (hr:∀ v h',R v h'→R' v h'):Cx P E f args h R':=by
 subst hh
 exact hc.mono hr
theorem Yx.mono {l:Nat} {args:List V} {h:Heap} {R R':Bool→Heap→Prop} (hc:Yx P E l args h R) (hr:∀ v h',R v h'→R' v h'):Yx P E l args h R':=fun hF _ _ _ _ c cs b k us hW hG h1 h2 hs=>by
 obtain ⟨v,h',q1,q2⟩:=hc hF c cs b k us hW hG h1 h2 hs
 exact ⟨v,h',hr _ _ q1,q2⟩
theorem zo7 {h:Heap} {t ty sz:Nat} {c:Option Nat} {z v:V} (hk:(match store P (oneH (.row 0 ty sz 0 c [z])) t (.ptr 0 0 0) v with | some h1=>some (h1.get 0) | none=>none)=some (.row 0 ty sz 0 c [v])):∃ h3,store P (newRow h ty sz 0 c [z]) t (.ptr h.n 0 0) v=some h3∧h3.n=h.n+1∧(∀ p,p<h.n→h3.get p=h.get p)∧h3.get h.n=.row 0 ty sz 0 c [v] :=
 ⟨_,q27 (by rw [q34,if_pos rfl]) hk,by rw [Heap.n_set,qh5],fun p hp=>by rw [Heap.get_set,if_neg (by omega),q34,if_neg (by omega)],by rw [Heap.get_set,if_pos rfl]⟩
theorem Wc.seqEx {β:Type} {a b:Code} {s:Fr} {h:Heap} (S:β→Fr) (H:β→Heap) (Q:β→Prop) (ha:Wc P E a s h (fun s1 h1=>∃ m,Vw N s1 h1 (S m) (H m)∧Q m) X N) (hb:∀ m,Q m→Wc P E b (S m) (H m) K X N):Wc P E (.seq a b) s h K X N :=
 Wc.seq (ha.mono (fun _ _ ⟨m,hv,hq⟩=>Wc.view hv (hb m hq)) (fun _ _ _ q=>q))
theorem TSat.keep {n:Nat} {L L':List (Nat×V)} {tm:T V} (h:TSat n L tm) (hk:q96 ⟨0,n,mkT n L,[],[],none,none,false⟩ (List.map Prod.fst L')=L':=by kernel_rfl):TSat n L' tm:=fun i hi=>by
 rcases qx0 n L' i hi with e | ⟨v,hm,e⟩
 ·exact .inl e
 ·rw [← hk] at hm
  have hv:=qu2 hm
  change v=(mkT n L).get undef i at hv
  rcases h i hi with q | q
  ·left;rw [e,hv];exact q
  ·right;rw [e,hv];exact q
theorem Wc.rangeAs {c:Code} {f:Operand} {params:Array Tmp} {b:Fr} {L:List (Nat×V)} {h:Heap} {q:FuncId} {args:List V} (as bd:Code) (hc:c=.rangeFunc f params as bd) (hro:b.round=none) (hde:b.defers=[]) (ho:zm5 E f (b.on L) (h.n+1)=some (q,args))
  (hw:∀ tm,TSat b.n L tm→Cx P E q args ((h.new .defs).new (.loop .ready none b.fn b.n tm params.toList as bd h.n)) (rEnd P E (h.n+1) b.fn b.n params.toList as bd h.n ({ b with marks:=h.n::b.marks }.on L) K X N)):Wc P E c (b.on L) h K X N:=by
 subst hc
 exact Wc.range hro hde ho (Heap.n_new _ _) hw
noncomputable def knL (E:Env) (l:List (FuncId×List V×V)):Env:={ E with prim:=fun f gs=>open Classical in if h:∃ g,(f,gs,g)∈l then some h.choose else E.prim f gs }
def qu4 (C:FuncId×List V×V→Prop) (l:List (FuncId×List V×V)):Prop:=List.rec True (fun p _ ih=>C p∧ih) l
theorem qu4.mem {C:FuncId×List V×V→Prop} {l:List (FuncId×List V×V)} (h:qu4 C l):∀ p,p∈l→C p:=by
 induction l with
 | nil=>intro p hp;cases hp
 | cons x l IH =>
  intro p hp
  have h:C x∧qu4 C l:=h
  rcases List.mem_cons.1 hp with e | e
  ·subst e;exact h.1
  ·exact IH h.2 p e
theorem qu4.of {C:FuncId×List V×V→Prop} {l:List (FuncId×List V×V)} (h:∀ p,p∈l→C p):qu4 C l:=by
 induction l with
 | nil=>trivial
 | cons x l IH=>exact ⟨h x (by simp),IH fun p hp=>h p (by simp [hp])⟩
theorem j51 {l:List (FuncId×List V×V)} (hP:q86 P E) (hc:∀ p,p∈l→y5 P E.glob p.1 p.2.1 p.2.2):q86 P (knL E l):=by
 intro f gs v hv
 unfold knL at hv
 simp only at hv
 split at hv
 ·rename_i h
  cases hv
  exact hc _ h.choose_spec
 ·exact hP f gs v hv
theorem xz8 {l:List (FuncId×List V×V)} (hu:∀ f gs g g',(f,gs,g)∈l→(f,gs,g')∈l→g=g'):∀ p,p∈l→(knL E l).prim p.1 p.2.1=some p.2.2:=fun p hp=>by
 unfold knL
 simp only
 have h:∃ g,(p.1,p.2.1,g)∈l:=⟨p.2.2,hp⟩
 rw [dif_pos h,hu _ _ _ _ h.choose_spec hp]
theorem j73 {l:List (FuncId×List V×V)} (F:FuncId→List V→V) (h:qu4 (fun p=>p.2.2=F p.1 p.2.1) l):∀ f gs g g',(f,gs,g)∈l→(f,gs,g')∈l→g=g':=fun f gs g g' h1 h2=>(h.mem _ h1).trans (h.mem _ h2).symm
theorem Wc.drawnL {id:Nat} {ops:Array Oper} {s:Fr} {h:Heap} (l:List (FuncId×List V×V)) (hu:∀ f gs g g',(f,gs,g)∈l→(f,gs,g')∈l→g=g') (hc:qu4 (fun p=>Cp P E p.1 p.2.1 p.2.2) l) (hd:AM.drawn P (knL E l) ops.toList=true) (hw:qu4 (fun p=>(knL E l).prim p.1 p.2.1=some p.2.2) l→Dl P (knL E l) noI ops.toList (ops.toList.drop 0) s h K):Wc P E (.region id ops true) s h K X N :=
 Wc.drawnG (E':=knL E l) rfl (fun hF=>zz6 (j51 hF.prim fun p hp=>hc.mem p hp hF)) hd (hw (.of (xz8 hu)))
end Go.AM
namespace Go.AM
open Go.RowKit
variable {P:Program} {E:Env} {K:Fr→Heap→Prop} {X:Ex→Fr→Heap→Prop} {N:Nat}
noncomputable def q06 (L:List (Nat×V)):List Nat:=List.rec [] (fun p _ ih=>p.1::ih) L
noncomputable def z93 {α β γ δ:Type} (x:Option (α×β×γ×δ)):Option (α×β×γ) :=
 match x with
 | some (a,b,c,_)=>some (a,b,c)
 | none=>none
noncomputable def z92 {α β γ δ:Type} (x:Option (α×β×γ×Option δ)):Option δ :=
 match x with
 | some (_,_,_,d)=>d
 | none=>none
theorem z18 {α β γ δ:Type} {x:Option (α×β×γ×Option δ)} {a:α} {b:β} {c:γ} (h:z93 x=some (a,b,c)):x=some (a,b,c,z92 x):=by
 cases x with
 | none=>cases h
 | some y =>
  obtain ⟨a',b',c',d'⟩:=y
  have h:some (a',b',c')=some (a,b,c):=h
  cases h
  rfl
noncomputable def zs7 {α β δ:Type} (x:Option (α×β×δ)):Option (α×β) :=
 match x with
 | some (a,b,_)=>some (a,b)
 | none=>none
noncomputable def zs9 {α β δ:Type} (x:Option (α×β×Option δ)):Option δ :=
 match x with
 | some (_,_,d)=>d
 | none=>none
theorem zf1 {α β δ:Type} {x:Option (α×β×Option δ)} {a:α} {b:β} (h:zs7 x=some (a,b)):x=some (a,b,zs9 x):=by
 cases x with
 | none=>cases h
 | some y =>
  obtain ⟨a',b',d'⟩:=y
  have h:some (a',b')=some (a,b):=h
  cases h
  rfl
theorem Wl.ld {all:List Oper} {b:Fr} {L:List (Nat×V)} {h:Heap} {t:TypeId} {a v:V} (i:Nat) (L':List (Nat×V)) (hv:AM.load P h t a=some v) (hk:Wl P E all (all.drop (i+1)) (b.on L') h K X N) (ho:zs7 (qw1 E all i (b.on L))=some (t,a):=by kernel_rfl) (hp:sumP (q06 L') ((b.on L).put (zs9 (qw1 E all i (b.on L))) v)=some L':=by kernel_rfl):Wl P E all (all.drop i) (b.on L) h K X N:=Wl.load i v _ L' (zf1 ho) hv hp hk
theorem Wl.cp {all:List Oper} {b:Fr} {L:List (Nat×V)} {h:Heap} {f:FuncId} {gs:List V} {g:V} (i:Nat) (L':List (Nat×V)) (hc:Cp P E f gs g) (hk:Wl P E all (all.drop (i+1)) (b.on L') h K X N) (ho:z93 (qv4 P E all i (b.on L) h)=some (f,gs,h):=by kernel_rfl) (ht:give E f h g=some (g,h):=by kernel_rfl) (hp:sumP (q06 L') ((b.on L).put (z92 (qv4 P E all i (b.on L) h)) g)=some L':=by kernel_rfl):Wl P E all (all.drop i) (b.on L) h K X N:=Wl.callP i _ L' hc (z18 ho) ht hp hk
theorem Wl.cs {all:List Oper} {b:Fr} {L:List (Nat×V)} {h h1 h2:Heap} {f:FuncId} {args:List V} {v:V} (i:Nat) (L':List (Nat×V)) (hc:Cs P E f args h1 v h2) (hk:Wl P E all (all.drop (i+1)) (b.on L') h2 K X N) (ho:z93 (qb5 P E all i (b.on L) h)=some (f,args,h1):=by kernel_rfl) (hp:sumP (q06 L') ((b.on L).put (z92 (qb5 P E all i (b.on L) h)) v)=some L':=by kernel_rfl):Wl P E all (all.drop i) (b.on L) h K X N:=Wl.callS i _ L' hc (z18 ho) hp hk
theorem Wc.cq {c:Operand} {a b:Code} {s:Fr} {h:Heap} {p:Prop} [Decidable p] (h1:p→Wc P E a s h K X N) (h2:¬ p→Wc P E b s h K X N) (hk:qd7 s c=true:=by kernel_rfl) (hc:ev E.glob s.tm c=some (.bool (decide p)):=by kernel_rfl):Wc P E (.cond c a b) s h K X N:=Wc.condP hk hc h1 h2
theorem Wc.ct {c:Operand} {a b:Code} {s:Fr} {h:Heap} (h1:Wc P E a s h K X N) (hk:qd7 s c=true:=by kernel_rfl) (hc:ev E.glob s.tm c=some (.bool true):=by kernel_rfl):Wc P E (.cond c a b) s h K X N:=Wc.condT hk hc h1
theorem Wc.cf {c:Operand} {a b:Code} {s:Fr} {h:Heap} (h1:Wc P E b s h K X N) (hk:qd7 s c=true:=by kernel_rfl) (hc:ev E.glob s.tm c=some (.bool false):=by kernel_rfl):Wc P E (.cond c a b) s h K X N:=Wc.condF hk hc h1
theorem Wl.dn {all:List Oper} {s:Fr} {h:Heap} (j:Nat) (hk:K s h) (hj:Nat.ble (List.len all) j=true:=by rfl):Wl P E all (all.drop j) s h K X N:=Wl.done j hj hk
noncomputable def hasK (U:List (Nat×V)) (k:Nat):Bool:=List.rec false (fun p _ ih=>bif Nat.beq p.1 k then true else ih) U
noncomputable def upd (L U:List (Nat×V)):List (Nat×V):=List.app U (List.rec [] (fun p _ ih=>bif hasK U p.1 then ih else p::ih) L)
section short
variable {id:Nat} {ops:Array Oper} {all:List Oper} {b:Fr} {L:List (Nat×V)} {h:Heap}
theorem Wc.wn (U:List (Nat×V)) (h':Heap) (φs:List Prop) (ho:Alls φs) (hk:K (b.on (upd L U)) h') (hb:sumB (q06 (upd L U)) (runB P E ops.toList (List.len ops.toList) ops.toList (b.on L) h)=some (upd L U,h',φs):=by kernel_rfl):Wc P E (.region id ops false) (b.on L) h K X N:=Wc.whole _ _ h' φs hb ho hk
theorem Wc.w (U:List (Nat×V)) (φs:List Prop) (ho:Alls φs) (hk:K (b.on (upd L U)) h) (hb:sumB (q06 (upd L U)) (runB P E ops.toList (List.len ops.toList) ops.toList (b.on L) h)=some (upd L U,h,φs):=by kernel_rfl):Wc P E (.region id ops false) (b.on L) h K X N:=Wc.whole _ _ h φs hb ho hk
theorem Wc.wn0 (U:List (Nat×V)) (h':Heap) (hk:K (b.on (upd L U)) h') (hb:sumB (q06 (upd L U)) (runB P E ops.toList (List.len ops.toList) ops.toList (b.on L) h)=some (upd L U,h',[]):=by kernel_rfl):Wc P E (.region id ops false) (b.on L) h K X N:=Wc.whole _ _ h' [] hb .nil hk
theorem Wc.w0 (U:List (Nat×V)) (hk:K (b.on (upd L U)) h) (hb:sumB (q06 (upd L U)) (runB P E ops.toList (List.len ops.toList) ops.toList (b.on L) h)=some (upd L U,h,[]):=by kernel_rfl):Wc P E (.region id ops false) (b.on L) h K X N:=Wc.whole _ _ h [] hb .nil hk
theorem Wl.bn (i j:Nat) (U:List (Nat×V)) (h':Heap) (φs:List Prop) (ho:Alls φs) (hk:Wl P E all (all.drop j) (b.on (upd L U)) h' K X N) (hb:sumB (q06 (upd L U)) (runB P E all (j-i) (all.drop i) (b.on L) h)=some (upd L U,h',φs):=by kernel_rfl) (hij:Nat.ble i j=true:=by rfl):Wl P E all (all.drop i) (b.on L) h K X N:=Wl.batch i j _ _ h' φs hb hij ho hk
theorem Wl.bs (i j:Nat) (U:List (Nat×V)) (φs:List Prop) (ho:Alls φs) (hk:Wl P E all (all.drop j) (b.on (upd L U)) h K X N) (hb:sumB (q06 (upd L U)) (runB P E all (j-i) (all.drop i) (b.on L) h)=some (upd L U,h,φs):=by kernel_rfl) (hij:Nat.ble i j=true:=by rfl):Wl P E all (all.drop i) (b.on L) h K X N:=Wl.batch i j _ _ h φs hb hij ho hk
theorem Wl.bn0 (i j:Nat) (U:List (Nat×V)) (h':Heap) (hk:Wl P E all (all.drop j) (b.on (upd L U)) h' K X N) (hb:sumB (q06 (upd L U)) (runB P E all (j-i) (all.drop i) (b.on L) h)=some (upd L U,h',[]):=by kernel_rfl) (hij:Nat.ble i j=true:=by rfl):Wl P E all (all.drop i) (b.on L) h K X N:=Wl.batch i j _ _ h' [] hb hij .nil hk
theorem Wl.b0 (i j:Nat) (U:List (Nat×V)) (hk:Wl P E all (all.drop j) (b.on (upd L U)) h K X N) (hb:sumB (q06 (upd L U)) (runB P E all (j-i) (all.drop i) (b.on L) h)=some (upd L U,h,[]):=by kernel_rfl) (hij:Nat.ble i j=true:=by rfl):Wl P E all (all.drop i) (b.on L) h K X N:=Wl.batch i j _ _ h [] hb hij .nil hk
theorem Wl.l {t:TypeId} {a v:V} (i:Nat) (U:List (Nat×V)) (hv:AM.load P h t a=some v) (hk:Wl P E all (all.drop (i+1)) (b.on (upd L U)) h K X N) (ho:zs7 (qw1 E all i (b.on L))=some (t,a):=by kernel_rfl) (hp:sumP (q06 (upd L U)) ((b.on L).put (zs9 (qw1 E all i (b.on L))) v)=some (upd L U):=by kernel_rfl):Wl P E all (all.drop i) (b.on L) h K X N:=Wl.ld i _ hv hk ho hp
theorem Wl.c {f:FuncId} {gs:List V} {g:V} (i:Nat) (U:List (Nat×V)) (hc:Cp P E f gs g) (hk:Wl P E all (all.drop (i+1)) (b.on (upd L U)) h K X N) (ho:z93 (qv4 P E all i (b.on L) h)=some (f,gs,h):=by kernel_rfl) (ht:give E f h g=some (g,h):=by kernel_rfl) (hp:sumP (q06 (upd L U)) ((b.on L).put (z92 (qv4 P E all i (b.on L) h)) g)=some (upd L U):=by kernel_rfl):Wl P E all (all.drop i) (b.on L) h K X N:=Wl.cp i _ hc hk ho ht hp
theorem Wl.s {h1 h2:Heap} {f:FuncId} {args:List V} {v:V} (i:Nat) (U:List (Nat×V)) (hc:Cs P E f args h1 v h2) (hk:Wl P E all (all.drop (i+1)) (b.on (upd L U)) h2 K X N) (ho:z93 (qb5 P E all i (b.on L) h)=some (f,args,h1):=by kernel_rfl) (hp:sumP (q06 (upd L U)) ((b.on L).put (z92 (qb5 P E all i (b.on L) h)) v)=some (upd L U):=by kernel_rfl):Wl P E all (all.drop i) (b.on L) h K X N:=Wl.cs i _ hc hk ho hp
theorem atOf {v:V} {s1:Fr} {d:Nat} (h1:(b.on L).at' d=v) (hs:(b.on L).put (some d) v=some s1):Le s1 (b.on L):=by
 have hs':Bool.rec none (some (⟨(b.on L).fn,(b.on L).n,T.set undef v (b.on L).tm d,(b.on L).marks,(b.on L).defers,(b.on L).round,(b.on L).dk,(b.on L).did⟩:Fr)) (Nat.blt d (b.on L).n)=some s1:=hs
 cases hn:Nat.blt d (b.on L).n with
 | false=>rw [hn] at hs';cases hs'
 | true =>
  rw [hn] at hs'
  cases hs'
  rw [Nat.blt_eq] at hn
  refine ⟨rfl,rfl,rfl,rfl,rfl,rfl,rfl,fun i hi=>?_,fun i hi=>?_⟩
  ·right
   change T.get undef (T.set undef v (b.on L).tm d) i=T.get undef (b.on L).tm i
   rw [T.get_set]
   split
   ·rename_i e;subst e;exact h1.symm
   ·rfl
  ·change T.get undef (T.set undef v (b.on L).tm d) i=undef∨T.get undef (T.set undef v (b.on L).tm d) i=lost
   rw [T.get_set,if_neg (by omega)]
   exact qo8 b.n L i hi
theorem Wl.k {l:List Oper} (d:Nat) (x v:V) (hv:x=v) (hk:Wl P E all l (b.on (upd L [(d,v)])) h K X N) (hx:(b.on L).at' d=x:=by kernel_rfl) (hp:sumP (q06 (upd L [(d,v)])) ((b.on L).put (some d) v)=some (upd L [(d,v)]):=by kernel_rfl):Wl P E all l (b.on L) h K X N:=by
 subst hv
 obtain ⟨s1,hp1,hL⟩:=q14 hp
 have hl:=atOf hx hp1
 exact hk.weak (Le.trans (((SameB.on b L).trans (.put hp1)).keep hL) hl)
theorem Wc.k {c:Code} (d:Nat) (x v:V) (hv:x=v) (hk:Wc P E c (b.on (upd L [(d,v)])) h K X N) (hx:(b.on L).at' d=x:=by kernel_rfl) (hp:sumP (q06 (upd L [(d,v)])) ((b.on L).put (some d) v)=some (upd L [(d,v)]):=by kernel_rfl):Wc P E c (b.on L) h K X N:=by
 subst hv
 obtain ⟨s1,hp1,hL⟩:=q14 hp
 have hl:=atOf hx hp1
 exact hk.weak (Le.trans (((SameB.on b L).trans (.put hp1)).keep hL) hl)
variable {ih:Task→Res} {K:Fr→Heap→Prop}
theorem Dl.k {l:List Oper} (d:Nat) (x v:V) (hv:x=v) (hk:Dl P E ih all l (b.on (upd L [(d,v)])) h K) (hx:(b.on L).at' d=x:=by kernel_rfl) (hp:sumP (q06 (upd L [(d,v)])) ((b.on L).put (some d) v)=some (upd L [(d,v)]):=by kernel_rfl):Dl P E ih all l (b.on L) h K:=by
 subst hv
 obtain ⟨s1,hp1,hL⟩:=q14 hp
 have hl:=atOf hx hp1
 exact hk.weak (Le.trans (((SameB.on b L).trans (.put hp1)).keep hL) hl)
theorem Dl.bn (i j:Nat) (U:List (Nat×V)) (h':Heap) (φs:List Prop) (ho:Alls φs) (hk:Dl P E ih all (all.drop j) (b.on (upd L U)) h' K) (hb:sumB (q06 (upd L U)) (runD P E all (j-i) (all.drop i) (b.on L) h)=some (upd L U,h',φs):=by kernel_rfl) (hij:Nat.ble i j=true:=by rfl):Dl P E ih all (all.drop i) (b.on L) h K:=Dl.batch i j _ _ h' φs hb hij ho hk
theorem Dl.bs (i j:Nat) (U:List (Nat×V)) (φs:List Prop) (ho:Alls φs) (hk:Dl P E ih all (all.drop j) (b.on (upd L U)) h K) (hb:sumB (q06 (upd L U)) (runD P E all (j-i) (all.drop i) (b.on L) h)=some (upd L U,h,φs):=by kernel_rfl) (hij:Nat.ble i j=true:=by rfl):Dl P E ih all (all.drop i) (b.on L) h K:=Dl.batch i j _ _ h φs hb hij ho hk
theorem Dl.bn0 (i j:Nat) (U:List (Nat×V)) (h':Heap) (hk:Dl P E ih all (all.drop j) (b.on (upd L U)) h' K) (hb:sumB (q06 (upd L U)) (runD P E all (j-i) (all.drop i) (b.on L) h)=some (upd L U,h',[]):=by kernel_rfl) (hij:Nat.ble i j=true:=by rfl):Dl P E ih all (all.drop i) (b.on L) h K:=Dl.batch i j _ _ h' [] hb hij .nil hk
theorem Dl.b0 (i j:Nat) (U:List (Nat×V)) (hk:Dl P E ih all (all.drop j) (b.on (upd L U)) h K) (hb:sumB (q06 (upd L U)) (runD P E all (j-i) (all.drop i) (b.on L) h)=some (upd L U,h,[]):=by kernel_rfl) (hij:Nat.ble i j=true:=by rfl):Dl P E ih all (all.drop i) (b.on L) h K:=Dl.batch i j _ _ h [] hb hij .nil hk
theorem Dl.l {t:TypeId} {a v:V} (i:Nat) (U:List (Nat×V)) (hv:AM.load P h t a=some v) (hk:Dl P E ih all (all.drop (i+1)) (b.on (upd L U)) h K) (ho:zs7 (zr9 E all i (b.on L))=some (t,a):=by kernel_rfl) (hp:sumP (q06 (upd L U)) ((b.on L).put (zs9 (zr9 E all i (b.on L))) v)=some (upd L U):=by kernel_rfl):Dl P E ih all (all.drop i) (b.on L) h K:=Dl.load i v _ _ (zf1 ho) hv hp hk
theorem Dl.c {f:FuncId} {gs:List V} {g:V} (i:Nat) (U:List (Nat×V)) (hpr:E.prim f gs=some g) (hg:x2 (x4 3) gs=true) (hk:Dl P E ih all (all.drop (i+1)) (b.on (upd L U)) h K) (ho:z93 (z78 P E all i (b.on L) h)=some (f,gs,h):=by kernel_rfl) (hs:E.shared f=false:=by kernel_rfl) (hp:sumP (q06 (upd L U)) ((b.on L).put (z92 (z78 P E all i (b.on L) h)) (qg7 g))=some (upd L U):=by kernel_rfl):Dl P E ih all (all.drop i) (b.on L) h K:=Dl.callP i _ _ (z18 ho) rfl hs hg hpr rfl hp hk
end short
noncomputable def hpO (x:Option (List Obj)):Option Heap :=
 match x with
 | some os=>some (hp os)
 | none=>none
theorem Vw.gk {b:Fr} {L L':List (Nat×V)} {h H:Heap} (ρ:Ren) (φs:List Prop) (ho:Alls φs) (hb:b.marks=[]∧b.defers=[]∧b.round=none:=by exact ⟨rfl,rfl,rfl⟩) (hr:z85 N h.n ρ 0 []=true:=by kernel_rfl) (hos:hpO (zf3 N ρ h ρ 0)=some H:=by kernel_rfl) (hL:renL N ρ h (q96 (b.on L) (q06 L'))=some L':=by kernel_rfl) (hφ:List.app (oldA ρ h ρ) (oldS ρ h (q96 (b.on L) (q06 L')))=φs:=by kernel_rfl):Vw N (b.on L) h (b.on L') H:=by
 cases ho':zf3 N ρ h ρ 0 with
 | none=>rw [ho'] at hos;cases hos
 | some os =>
  rw [ho'] at hos
  have e:hp os=H:=Option.some.inj hos
  subst e
  exact Vw.gc ρ _ _ L' os hb hr ho' rfl hL φs hφ ho
abbrev i64r (x:Int):Prop:=(-9223372036854775808:Int)≤x∧x≤(9223372036854775807:Int)
end Go.AM
