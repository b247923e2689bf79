/-
  WHAT FUNCTIONS OF THE PROGRAM COME TO, told by the machine, and plain laws of it. No condition but what each theorem says of its arguments.
-/
import Derived.Test.YtjdahgihdceebaaGreatDoorFd9
namespace Go.AM
open Go.Proofs
set_option maxRecDepth 100000
set_option maxHeartbeats 4000000
/-- ITEMS OF TOKENS THAT ALL COUNT; THE TREE. -/
def zO0 (its:List It):List qe0:=its.map fun x=>(x.k,x.w)
def Kf0 (its:List It):Prop:=its.length≤1000000∧∀ x,x∈its→x.w≠[]∧x.w.length≤65536
theorem YC1 {b:Nat}:∀ (l:List qe0),(∀ t,t∈l→t.2.length≤b)→wid l≤b
 | [],_=>Nat.zero_le _
 | t::l,h=>Nat.max_le.2 ⟨h t (List.mem_cons_self ..),YC1 l fun t ht=>h t (List.mem_cons_of_mem _ ht)⟩
theorem qe2 (its:List It) (h:Kf0 its):Items (its.map itV) (zO0 its):=by
 have hl:(zO0 its).length=its.length:=List.length_map ..
 have hat:∀ i (hi:i<(zO0 its).length),(its.map itV)[i]?=some (itV (its[i]'(by omega))):=fun i hi=>XB0 (by omega)
 refine ⟨by rw [List.length_map,hl],by have:=h.1;omega,Nat.le_trans (YC1 (b:=65536) _ fun t ht=>?_) (by decide),fun i hi=>(zw1 (hat i hi)).1,fun i hi=>(zw1 (hat i hi)).2.1,fun i hi=>(zw1 (hat i hi)).2.2,fun i hi=>?_,fun i hi=>?_⟩
 ·obtain ⟨x,hx,rfl⟩:=List.mem_map.1 ht
  exact (h.2 x hx).2
 ·rw [(it_g (hat i hi)).1];simp [zO0]
 ·rw [(it_g (hat i hi)).2.1];simp [zO0]
theorem Zg2 (its:List It) (h:Kf0 its):JT0 (zO0 its):=fun p w hp=>by
 have:∃ k,(k,w)∈zO0 its:=by
  rcases hp with hp | hp
  ·exact ⟨_,List.mem_of_getElem? hp⟩
  ·exact ⟨_,List.mem_of_getElem? hp⟩
 obtain ⟨k,hk⟩:=this
 obtain ⟨x,hx,e⟩:=List.mem_map.1 hk
 cases e
 exact (h.2 x hx).1
noncomputable def mPG:Res→Nd×Int×Int
 | .ret v _=>(match v with
  | .tup [a,b,c]=>(Gj0 a,uI b,uI c)
  | _=>(⟨0,[],[]⟩,0,0))
 | _=>(⟨0,[],[]⟩,0,0)
theorem prog_L (its:List It) (h:Kf0 its):OkL (fun X=>X.PG (.call 14 [.osl 4 (its.map itV)] Heap.empty)) fun a=>∃ x:Nd×Nat×Nat,YJ0 (zO0 its) x∧a=(x.1,(x.2.1:Int),(x.2.2:Int)):=by
 obtain ⟨x,hx,N0,hN⟩:=yb2 (qe2 its h) (Zg2 its h)
 exact .tk (R:=rPG) (L:=mPG) (fun _=>rfl) (fun a=>by kernel_rfl) ⟨_,⟨(x.1,(x.2.1:Int),(x.2.2:Int)),rfl,x,hx,rfl⟩,N0,hN⟩
theorem it_at {es:List V} {i:Nat} {t:It} (h:es[i]?=some (itV t)):ldX PP 3 4 es (i*4+2):=by
 have g1:gI 4 es (i*4+2) 0=t.a:=by unfold gI;rw [yy0 (by omega) h];rfl
 have c1:zm0 4 es (i*4+2) 1=some [.int .i64 t.a]:=by rw [Xg0 (by omega) (by omega) (show 2+1≤4 by omega) h];rfl
 have he:zz0 PP 3 4 es (i*4+2)=some (.int .i64 (gI 4 es (i*4+2) 0)):=by kernel_rfl
 unfold ldX;rw [he,g1]
 change yY0 PP 3 (zm0 4 es (i*4+2) 1)=_
 rw [c1];first | kernel_rfl | rfl
theorem jk1 (k:Int) (w:List UInt8) (h1:k≠1) (h2:k≠2):OkL (fun X=>X.O (.call 66 [.agg [.int .i64 k,.str w]] Heap.empty)) fun a=>a=true :=
 .bool (Tk.byL (.of (fun m=>KC1 (XL m) _ none some k w) (Rn.ndecT h1 (Rn.ndecT h2 (Rn.ret rfl)))))
def oslE:List V→List V
 | .osl _ es::_=>es
 | _=>[]
def isSl:List V→Bool
 | .sl _ _ _ _ _::_=>true
 | _=>false
noncomputable def mEa:Res→Ea
 | .code _ _ h=>bif isSl (esO (h.get 0)) then (bif isSl (esO (h.get 1)) then ⟨oslE (esO (h.get 2)),true,JK0 (esO (h.get 0)),JJ0 (esO (h.get 0)),esO (h.get 5),true,JK0 (esO (h.get 1)),JJ0 (esO (h.get 1)),esO (h.get 6)⟩ else ⟨oslE (esO (h.get 2)),true,JK0 (esO (h.get 0)),JJ0 (esO (h.get 0)),esO (h.get 5),false,0,0,[]⟩)
  else (bif isSl (esO (h.get 1)) then ⟨oslE (esO (h.get 2)),false,0,0,[],true,JK0 (esO (h.get 1)),JJ0 (esO (h.get 1)),esO (h.get 5)⟩ else ⟨oslE (esO (h.get 2)),false,0,0,[],false,0,0,[]⟩)
 | _=>⟨[],false,0,0,[],false,0,0,[]⟩
def nEa (a:Ea):Ea:=⟨a.es,a.b1,bif a.b1 then a.v1 else 0,bif a.b1 then a.n1 else 0,bif a.b1 then a.l1 else [],a.b2,bif a.b2 then a.v2 else 0,bif a.b2 then a.n2 else 0,bif a.b2 then a.l2 else []⟩
theorem QV1 (a:Ea):mEa (rEa (base 100 23) a.b1 a.b2 a)=nEa a:=by
 obtain ⟨es,b1,v1,n1,l1,b2,v2,n2,l2⟩:=a
 cases b1 <;> cases b2 <;> kernel_rfl
def EaP (ts:List qe0) (a:Ea):Prop:=a.b1=false∧a.b2=true∧∃ its:List It,a.l2=its.map itV∧a.n2=its.length∧zO0 its=ts
theorem EaP.u {ts:List qe0} (a:Ea) (h:EaP ts (nEa a)):EaP ts a:=by
 obtain ⟨es,b1,v1,n1,l1,b2,v2,n2,l2⟩:=a
 obtain ⟨h1,h2,h3⟩:=h
 change b1=false at h1
 change b2=true at h2
 subst h1;subst h2
 exact ⟨rfl,rfl,h3⟩
noncomputable abbrev frE (es:List V) (a j:Int):Fr:=(base 100 23).on [(0,.func (.yield 4) [] []),(3,.int .i64 a),(6,.osl 2 es),(7,.int .i64 es.length),(8,.int .i64 j)]
section it
variable (ts:List qe0) (hk:∀ t,t∈ts→t.1≠1∧t.1≠2) (hw:∀ t,t∈ts→t.2.length≤65536) (hl:ts.length≤65536)
 include hk hw hl
theorem itemsL:∀ (d j:Nat) (at1:Int) (v m:Nat) (its:List It),ts.length-j≤d→j≤ts.length→0≤at1→at1≤65536*(j:Int)→m=its.length→zO0 its=ts.take j→OkL (fun X=>X.Ea (.code (.loop (lpB PP 100 0)) (frE (ts.map qC0) at1 j) (hpE (ts.map qC0) .nils (.sl 5 v 0 m none) [QV0 v (its.map itV)]))) (EaP ts):=by
 intro d
 have fin:∀ {j:Nat} {at1:Int} {v m:Nat} {its:List It},(∃ r,(∃ a:Ea,r=rEa (base 100 23) a.b1 a.b2 a∧EaP ts (nEa a))∧Tk (.code (.loop (lpB PP 100 0)) (frE (ts.map qC0) at1 j) (hpE (ts.map qC0) .nils (.sl 5 v 0 m none) [QV0 v (its.map itV)])) r)→OkL (fun X=>X.Ea (.code (.loop (lpB PP 100 0)) (frE (ts.map qC0) at1 j) (hpE (ts.map qC0) .nils (.sl 5 v 0 m none) [QV0 v (its.map itV)]))) (EaP ts):=fun h =>
  .nrm (R:=fun a:Ea=>rEa (base 100 23) a.b1 a.b2 a) (L:=mEa) (N:=nEa) (fun _=>rfl) QV1 EaP.u h
 have stop:∀ {j:Nat} {v m:Nat} {its:List It},ts.length≤j→m=its.length→zO0 its=ts.take j→EaP ts (nEa ⟨ts.map qC0,false,0,0,[],true,v,m,its.map itV⟩):=fun hj hm ht=>⟨rfl,rfl,_,rfl,hm,by rw [ht,List.take_of_length_le hj]⟩
 have hln:(ts.map qC0).length=ts.length:=List.length_map ..
 induction d with
 | zero =>
  intro j at1 v m its hd hj ha0 ha1 hm ht
  refine fin (Tk.byL (.of (fun n=>jE1 (XL n) _ none some (ts.map qC0) at1 j v m (its.map itV)) ?_))
  exact Rn.decF (by omega) (Rn.need (QR0 its) (Rn.need (QR0 its) (Rn.ret ⟨⟨ts.map qC0,false,0,0,[],true,v,m,its.map itV⟩,rfl,stop (by omega) hm ht⟩)))
 | succ d IH =>
  intro j at1 v m its hd hj ha0 ha1 hm ht
  refine fin (Tk.byL (.of (fun n=>jE1 (XL n) _ none some (ts.map qC0) at1 j v m (its.map itV)) ?_))
  refine Rn.dec (fun hlt=>?_) (fun _=>Rn.need (QR0 its) (Rn.need (QR0 its) (Rn.ret ⟨⟨ts.map qC0,false,0,0,[],true,v,m,its.map itV⟩,rfl,stop (by omega) hm ht⟩)))
  have hjl:j<ts.length:=by omega
  have hat:(ts.map qC0)[j]?=some (qC0 ts[j]):=XB0 hjl
  have g1:gI 2 (ts.map qC0) (Int.toNat (j:Int)*2) 0=ts[j].1:=(Kc0 hat).1
  have g2:gS 2 (ts.map qC0) (Int.toNat (j:Int)*2) 1=ts[j].2:=(Kc0 hat).2.1
  have hmem:ts[j]∈ts:=List.getElem_mem hjl
  have hw1:=hw _ hmem
  obtain ⟨k1,k2⟩:=hk _ hmem
  have hml:m=(its.map itV).length:=by rw [List.length_map];exact hm
  have hmj:m≤ts.length:=by have:=congrArg List.length ht;simp [zO0] at this;omega
  have nx:=IH (j+1) (at1+(ts[j].2.length:Int)) (Nat.succ v) (m+1) (its++[⟨ts[j].1,ts[j].2,at1,[]⟩]) (by omega) (by omega) (by omega) (by omega) (by simp [hm]) (by rw [List.take_add_one,List.getElem?_eq_getElem hjl,← ht];simp [zO0])
  have e1:(its++[(⟨ts[j].1,ts[j].2,at1,[]⟩:It)]).map itV=its.map itV++[V.agg [.int .i64 ts[j].1,.str ts[j].2,.int .i64 at1,.osl 1 []]]:=by rw [List.map_append];rfl
  rw [e1] at nx
  have gi:GndR (its.map itV++[V.agg [.int .i64 ts[j].1,.str ts[j].2,.int .i64 at1,.osl 1 []]]):=by rw [← e1];exact QR0 _
  rw [g1,g2]
  refine Rn.nX (by omega) (Rn.need (YA1 hat).2 (Rn.got (jk1 ts[j].1 ts[j].2 k1 k2) (Rn.ct ?_)))
  refine Rn.need ⟨rfl,(by intro h;cases h),hml,Nat.zero_le _,by simp only [List.length_cons,List.length_nil];omega,by simp only [List.length_cons,List.length_nil];omega⟩ (Rn.nI (by omega) (Rn.nI (by omega) (Rn.need gi (Rn.bndL nx (fun a ha=>?_)))))
  obtain ⟨es,b1,v1,n1,l1,b2,v2,n2,l2⟩:=a
  obtain ⟨h1,h2,its2,h3,h4,h5⟩:=ha
  change b1=false at h1
  change b2=true at h2
  change l2=_ at h3
  change n2=_ at h4
  subst h1;subst h2;subst h3;subst h4
  exact Rn.cf (Rn.ct (Rn.need (QR0 its2) (Rn.ret ⟨⟨es,false,0,0,[],true,v2,its2.length,its2.map itV⟩,rfl,rfl,rfl,its2,rfl,rfl,h5⟩)))
noncomputable def mIT:Res→List V×List V
 | .ret v _=>(match v with
  | .tup [a,b]=>(asEs a,asEs b)
  | _=>([],[]))
 | _=>([],[])
theorem qf2 (hne:ts≠[]):OkL (fun X=>X.IT (.call 30 [.osl 2 (ts.map qC0)] Heap.empty)) fun a=>∃ its:List It,a.2=its.map itV∧zO0 its=ts:=by
 have hl0:=List.length_pos_iff.2 hne
 have hln:(ts.map qC0).length=ts.length:=List.length_map ..
 have h0:OkL (fun X=>X.Ea (.code (.loop (lpB PP 100 0)) (frE (ts.map qC0) 0 0) (hp [.row 0 42 1 0 (some 1) [.nils],.row 0 28 1 0 (some 1) [.nils],.row 0 45 1 0 (some 1) [.osl 2 (ts.map qC0)],.defs,lpE0 (ts.map qC0)]))) (EaP ts):=by
  refine .nrm (R:=fun a:Ea=>rEa (base 100 23) a.b1 a.b2 a) (L:=mEa) (N:=nEa) (fun _=>rfl) QV1 EaP.u (Tk.byL (.of (fun n=>Kw1 (XL n) _ none some (ts.map qC0)) ?_))
  have hat:(ts.map qC0)[0]?=some (qC0 ts[0]):=XB0 hl0
  have g1:gI 2 (ts.map qC0) 0 0=ts[0].1:=(Kc0 (i:=0) hat).1
  have g2:gS 2 (ts.map qC0) 0 1=ts[0].2:=(Kc0 (i:=0) hat).2.1
  have hmem:ts[0]∈ts:=List.getElem_mem hl0
  have hw1:=hw _ hmem
  obtain ⟨k1,k2⟩:=hk _ hmem
  have e0:(0:Int)+(ts[0].2.length:Int)=(ts[0].2.length:Int):=by omega
  have nx:=itemsL ts hk hw hl ts.length 1 (ts[0].2.length:Int) 0 1 [⟨ts[0].1,ts[0].2,0,[]⟩] (by omega) (by omega) (by omega) (by omega) rfl (by rw [List.take_add_one,List.getElem?_eq_getElem hl0];simp [zO0])
  rw [g1,g2,e0]
  refine Rn.decT (by omega) (Rn.nX (by omega) (Rn.need (YA1 (i:=0) hat).2 (Rn.got (jk1 ts[0].1 ts[0].2 k1 k2) (Rn.ct ?_))))
  refine Rn.need ⟨(by intro h;cases h),by omega,by omega⟩ (Rn.nI (by omega) (Rn.need (by omega) (Rn.need (QR0 [⟨ts[0].1,ts[0].2,0,[]⟩]) (Rn.bndL nx (fun a ha=>?_)))))
  obtain ⟨es,b1,v1,n1,l1,b2,v2,n2,l2⟩:=a
  obtain ⟨h1,h2,its2,h3,h4,h5⟩:=ha
  change b1=false at h1
  change b2=true at h2
  change l2=_ at h3
  change n2=_ at h4
  subst h1;subst h2;subst h3;subst h4
  exact Rn.cf (Rn.ct (Rn.need (QR0 its2) (Rn.ret ⟨⟨es,false,0,0,[],true,v2,its2.length,its2.map itV⟩,rfl,rfl,rfl,its2,rfl,rfl,h5⟩)))
 refine .tk (R:=rIT) (L:=mIT) (fun _=>rfl) (fun _=>rfl) (Tk.byL (.of (fun n=>Kx1 (XL n) _ none some (ts.map qC0)) ?_))
 refine Rn.bndL h0 (fun a ha=>?_)
 obtain ⟨es,b1,v1,n1,l1,b2,v2,n2,l2⟩:=a
 obtain ⟨h1,h2,its2,h3,h4,h5⟩:=ha
 change b1=false at h1
 change b2=true at h2
 change l2=_ at h3
 change n2=_ at h4
 subst h1;subst h2;subst h3;subst h4
 exact Rn.cf (Rn.ct (Rn.need ⟨rfl,rfl,by rw [List.length_map],QR0 its2⟩ (Rn.ret ⟨([],its2.map itV),rfl,its2,rfl,h5⟩)))
end it
theorem Qj2 {D:Prop} (s:List UInt8) (hS:s.length≤65536) (ha:∀ p,p<s.length→(s.getD p 0).toNat<128) (t:qe0) (rs:List qe0) (hs:s=txt (t::rs)) (hrun:RunT D true [] false false (t::rs)) (hk:∀ x,x∈t::rs→x.1≠1∧x.1≠2) (hw:∀ x,x∈t::rs→x.2≠[]∧x.2.length≤65536) (hl:(t::rs).length≤65536) (P:Int→Prop) (hP:∀ x,YJ0 (t::rs) x→P (x.2.1:Int)) (hD:D→P 21) :
 OkL (fun X=>X.PG (.call 17 [.str s] Heap.empty)) fun a=>P a.2.1:=by
 refine .tk (R:=rPG) (L:=mPG) (fun _=>rfl) (fun a=>by kernel_rfl) (Tk.byL (.of (fun n=>KJ1 (XL n) _ none some s) ?_))
 refine Rn.bndL (Zh2 s hS ha t rs hs hrun) (fun a h=>?_)
 obtain ⟨l,e,q⟩:=a
 rcases h with ⟨h1,h2⟩ | ⟨h1,h2⟩
 ·change e=0 at h1
  change l=_ at h2
  subst h1;subst h2
  refine Rn.ndecF rfl (Rn.bndL (qf2 (t::rs) hk (fun x hx=>(hw x hx).2) hl (by intro h;cases h)) (fun a h=>?_))
  obtain ⟨l1,l2⟩:=a
  obtain ⟨its,h1,h2⟩:=h
  change l2=_ at h1
  subst h1
  have hg:Kf0 its:=by
   refine ⟨?_,fun x hx=>?_⟩
   ·have:=congrArg List.length h2;unfold zO0 at this;rw [List.length_map] at this;omega
   ·exact hw (x.k,x.w) (by rw [← h2];exact List.mem_map.2 ⟨x,hx,rfl⟩)
  refine Rn.bndL (prog_L its hg) (fun a h=>?_)
  obtain ⟨nd,e,i⟩:=a
  obtain ⟨x,hx,hxe⟩:=h
  rw [h2] at hx
  have hp:=hP x hx
  injection hxe with e1 e2
  injection e2 with e2 e3
  subst e1;subst e2;subst e3
  refine Rn.dec (fun h0=>Rn.ret ⟨(x.1,(x.2.1:Int),0),rfl,hp⟩) (fun _=>?_)
  refine Rn.dec (fun hlt=>?_) (fun _=>Rn.ret ⟨(x.1,(x.2.1:Int),(s.length:Int)),rfl,hp⟩)
  have hlt2:x.2.2<its.length:=by
   have hlt:(x.2.2:Int)<((its.map itV).length:Int):=hlt
   rw [List.length_map] at hlt;omega
  have hat:(its.map itV)[x.2.2]?=some (itV its[x.2.2]):=XB0 hlt2
  have hld:=it_at hat
  have hb:(0:Int)≤(x.2.2:Int)∧(x.2.2:Int)<((its.map itV).length:Int):=⟨Int.natCast_nonneg _,hlt⟩
  exact Rn.nX hb (Rn.need hld (Rn.need hld (Rn.need rfl (Rn.need rfl (Rn.need hb (Rn.need rfl (Rn.need rfl (Rn.need rfl (Rn.need rfl (Rn.ret ⟨(x.1,(x.2.1:Int),gI 4 (its.map itV) (((x.2.2:Int).toNat*4).add 2) 0),rfl,hp⟩))))))))))
 ·change e=21 at h1
  subst h1
  exact Rn.ndecT (show ¬ ((21:Int)=0) by decide) (Rn.ret ⟨(⟨0,[],[]⟩,21,q),rfl,hD h2⟩)
/-- THE LAW's TEXT. -/
theorem YB1 (a b:List qe0):txt (a++b)=txt a++txt b:=List.flatMap_append
theorem zo2 (ws:List Nat) (r:List qe0):∃ d q,txt (nest ws++r)=d::q∧d≠58:=by
 obtain ⟨t,ts,he,ht⟩:=Yq0 ws r
 rw [he]
 rcases ht with rfl | rfl | rfl | rfl | rfl <;> exact ⟨_,_,rfl,by decide⟩
theorem zm2 {D:Prop}:∀ (ws:List Nat) (z:Bool) (cs:List Int) (f:Bool) (post:List qe0),(z=true→cs=[])→(z=false→f=true)→(∀ x,x∈cs→0≤x)→EndB (txt post)→(∀ z' f',(z=false→z'=false)→(z'=true→cs=[])→RunT D z' cs false f' post)→(256<cs.length+ws.length→D)→RunT D z cs false f (nest ws++post):=by
 intro ws
 induction ws with
 | nil=>exact fun z cs f post h1 _ _ he hpost _=>.tok (.num z cs f _ he) (hpost z f id h1)
 | cons w ws IH =>
  intro z cs f post h1 h2 h3 he hpost hD
  have hD2:256<cs.length+(ws.length+1)→D:=hD
  match w with
  | 0 =>
   have e:nest (0::ws)++post=(13,[40])::(nest ws++((13,[41])::post)):=by simp [nest,fT,bT]
   rw [e]
   have he2:EndB (txt ((13,[41])::post)):=.inr ⟨txt post,.inl rfl⟩
   rcases List.eq_nil_or_concat cs with rfl | ⟨cs0,x,hx⟩
   ·refine .tok (.par z f 40 _ (.inl rfl)) (IH z [] f _ (fun _=>rfl) h2 h3 he2 (fun z' f' a b=>?_) (fun h=>hD2 (by omega)))
    exact .tok (.par z' f' 41 _ (.inr rfl)) (hpost z' f' a (fun _=>rfl))
   ·rw [List.concat_eq_append] at hx
    subst hx
    have hz:z=false:=by cases z with
     | false=>rfl
     | true=>have:=h1 rfl;simp at this
    subst hz
    have hx0:=h3 x (by simp)
    refine .tok (.inc cs0 x f _) (IH false (cs0++[x+1]) f _ (fun h=>by cases h) h2 (fun y hy=>?_) he2 (fun z' f' a b=>?_) (fun h=>hD2 (by simp at h ⊢;omega)))
    ·rcases List.mem_append.1 hy with hy | hy
     ·exact h3 y (by simp [hy])
     ·rw [List.mem_singleton] at hy;omega
    ·have hz:=a rfl
     subst hz
     have:=RunT.tok (.dec cs0 (x+1) f' (txt post) (by omega)) (D:=D) (rs:=post) (hpost false f' a (fun h=>by cases h) |> fun h=>by rw [show x+1-1=x by omega];exact h)
     exact this
  | 1 =>
   have e:nest (1::ws)++post=(13,[91])::(nest ws++((13,[93])::post)):=by simp [nest,fT,bT]
   rw [e]
   refine .tok (.op z cs f 91 _ (.inl rfl)) (IH z cs f _ h1 h2 h3 (.inr ⟨txt post,.inr (.inl rfl)⟩) (fun z' f' a b=>?_) (fun h=>hD2 (by omega)))
   exact .tok (.op z' cs f' 93 _ (.inr (.inl rfl))) (hpost z' f' a b)
  | 2 =>
   have e:nest (2::ws)++post=(13,[123])::(3,[97])::(13,[58])::(nest ws++((13,[125])::post)):=by simp [nest,fT,bT]
   rw [e]
   obtain ⟨d,q,hq,hd⟩:=zo2 ws ((13,[125])::post)
   have hw:Stp z cs false f (3,[97]) (txt ((13,[58])::(nest ws++((13,[125])::post)))) z cs false f:=by
    have:txt ((13,[58])::(nest ws++((13,[125])::post)))=58::d::q:=by rw [← hq];rfl
    rw [this]
    exact .word z cs f d q hd
   refine .tok (.op z cs f 123 _ (.inr (.inr (.inl rfl)))) (.tok hw (.tok (.op z cs f 58 _ (.inr (.inr (.inr (.inr rfl))))) (IH z cs f _ h1 h2 h3 (.inr ⟨txt post,.inr (.inr rfl)⟩) (fun z' f' a b=>?_) (fun h=>hD2 (by omega)))))
   exact .tok (.op z' cs f' 125 _ (.inr (.inr (.inr (.inl rfl))))) (hpost z' f' a b)
  | w+3 =>
   have e:nest ((w+3)::ws)++post=(7,[34])::(9,[92,40])::(nest ws++((10,[41])::(11,[34])::post)):=by simp [nest,fT,bT]
   rw [e]
   have he2:EndB (txt ((10,[41])::(11,[34])::post)):=.inr ⟨_,.inl rfl⟩
   have inn:∀ cs2,cs2=cs++[0]→RunT D false cs2 false true (nest ws++((10,[41])::(11,[34])::post)):=fun cs2 e2=>by
    subst e2
    refine IH false (cs++[0]) true _ (fun h=>by cases h) (fun _=>rfl) (fun y hy=>?_) he2 (fun z' f' a b=>?_) (fun h=>hD2 (by simp at h ⊢;omega))
    ·rcases List.mem_append.1 hy with hy | hy
     ·exact h3 y hy
     ·rw [List.mem_singleton] at hy;omega
    ·have hz:=a rfl
     subst hz
     exact .tok (.pop cs f' _) (.tok (.endq false cs false _) (hpost false false (fun _=>rfl) (fun h=>by cases h)))
   refine .tok (.quote z cs f _) ?_
   cases z with
   | true =>
    have hc:=h1 rfl
    subst hc
    exact .tok (.open0 f _) (inn [0] rfl)
   | false =>
    have hf:=h2 rfl
    subst hf
    rcases Nat.lt_or_ge cs.length 256 with h | h
    ·exact .tok (.open1 cs _ h) (inn _ rfl)
    ·exact .deep (hD2 (by omega)) cs true _ h
def ya0 (ws:List Nat):List UInt8:=ws.flatMap fun w=>txt (fT w)
def zP0:List Nat→List UInt8
 | []=>[]
 | w::ws=>zP0 ws++txt (bT w)
theorem zk2 (ws:List Nat):txt (nest ws)=ya0 ws++[49]++zP0 ws:=by
 induction ws with
 | nil=>rfl
 | cons w ws IH =>
  show txt (fT w++(nest ws++bT w))=(txt (fT w)++ya0 ws)++[49]++(zP0 ws++txt (bT w))
  rw [YB1,YB1,IH]
  simp
theorem Jl1 (ws:List Nat) (w:Nat):zP0 (ws++[w])=txt (bT w)++zP0 ws:=by
 induction ws with
 | nil=>show []++txt (bT w)=txt (bT w)++[];simp
 | cons v ws IH =>
  show zP0 (ws++[w])++txt (bT v)=txt (bT w)++(zP0 ws++txt (bT v))
  rw [IH,List.append_assoc]
theorem Gt1 (ws:List Nat) (w:Nat):ya0 (ws++[w])=ya0 ws++txt (fT w):=by
 unfold ya0
 rw [List.flatMap_append]
 simp
def qe1 (t:qe0):Prop:=(t.1≠1∧t.1≠2)∧(t.2≠[]∧t.2.length≤2)∧∀ c,c∈t.2→c.toNat<128
theorem zi1:∀ (w:Nat) (t:qe0),t∈fT w→qe1 t:=by
 intro w t ht
 match w with
 | 0=>rw [List.mem_singleton.1 ht];exact ⟨by decide,by decide,by decide⟩
 | 1=>rw [List.mem_singleton.1 ht];exact ⟨by decide,by decide,by decide⟩
 | 2 =>
  have ht:t=(13,[123])∨t=(3,[97])∨t=(13,[58]):=by simpa [fT] using ht
  rcases ht with rfl | rfl | rfl <;> exact ⟨by decide,by decide,by decide⟩
 | w+3 =>
  have ht:t=(7,[34])∨t=(9,[92,40]):=by simpa [fT] using ht
  rcases ht with rfl | rfl <;> exact ⟨by decide,by decide,by decide⟩
theorem zh1:∀ (w:Nat) (t:qe0),t∈bT w→qe1 t:=by
 intro w t ht
 match w with
 | 0=>rw [List.mem_singleton.1 ht];exact ⟨by decide,by decide,by decide⟩
 | 1=>rw [List.mem_singleton.1 ht];exact ⟨by decide,by decide,by decide⟩
 | 2=>rw [List.mem_singleton.1 ht];exact ⟨by decide,by decide,by decide⟩
 | w+3 =>
  have ht:t=(10,[41])∨t=(11,[34]):=by simpa [bT] using ht
  rcases ht with rfl | rfl <;> exact ⟨by decide,by decide,by decide⟩
theorem good_n (ws:List Nat):∀ t,t∈nest ws→qe1 t:=by
 induction ws with
 | nil=>intro t ht;rw [List.mem_singleton.1 ht];exact ⟨by decide,by decide,by decide⟩
 | cons w ws IH =>
  intro t ht
  rcases List.mem_append.1 ht with h | h
  ·exact zi1 w t h
  ·rcases List.mem_append.1 h with h | h
   ·exact IH t h
   ·exact zh1 w t h
theorem zB1 (w:Nat):(fT w).length≤3:=by
 match w with
 | 0=>decide
 | 1=>decide
 | 2=>decide
 | w+3=>show 2≤3;decide
theorem zA1 (w:Nat):(bT w).length≤2:=by
 match w with
 | 0=>decide
 | 1=>decide
 | 2=>decide
 | w+3=>show 2≤2;decide
theorem len_n (ws:List Nat):(nest ws).length≤5*ws.length+1:=by
 induction ws with
 | nil=>decide
 | cons w ws IH =>
  show (fT w++(nest ws++bT w)).length≤5*(ws.length+1)+1
  have:=zB1 w
  have:=zA1 w
  rw [List.length_append,List.length_append];omega
theorem Xv0 (ts:List qe0) (h:∀ t,t∈ts→t.2.length≤2):(txt ts).length≤2*ts.length:=by
 induction ts with
 | nil=>decide
 | cons t ts IH =>
  show (t.2++txt ts).length≤2*(ts.length+1)
  have:=h t (by simp)
  have:=IH fun x hx=>h x (by simp [hx])
  rw [List.length_append];omega
theorem zl2 (ws:List Nat):∃ t rs,nest ws=t::rs:=by
 obtain ⟨t,ts,he,_⟩:=Yq0 ws []
 exact ⟨t,ts,by rw [← he,List.append_nil]⟩
theorem Xo1 (ws:List Nat) (hl:ws.length≤300) (s:List UInt8) (hs:s=txt (nest ws)) :
 OkL (fun X=>X.PG (.call 17 [.str s] Heap.empty)) fun a=>a.2.1=if ws.length≤256 then 0 else 21:=by
 obtain ⟨t,rs,he⟩:=zl2 ws
 have hg:=good_n ws
 have hln:=len_n ws
 have hlt:=Xv0 (nest ws) fun t ht=>(hg t ht).2.1.2
 have hrun:RunT (256<ws.length) true [] false false (nest ws):=by
  have:=zm2 (D:=256<ws.length) ws true [] false [] (fun _=>rfl) (fun h=>by cases h) (fun x hx=>by cases hx) (.inl rfl) (fun z' f' _ _=>.fin z' f') (fun h=>by simpa using h)
  rwa [List.append_nil] at this
 have hsl:s.length≤65536:=by rw [hs];omega
 have hall:∀ c,c∈s→c.toNat<128:=by
  rw [hs]
  intro c hc
  obtain ⟨t,ht,hc⟩:=List.mem_flatMap.1 hc
  exact (hg t ht).2.2 c hc
 have hasc:∀ p,p<s.length→(s.getD p 0).toNat<128:=fun p hp=>by
  rw [List.getD_eq_getElem?_getD,List.getElem?_eq_getElem hp]
  exact hall _ (List.getElem_mem hp)
 rw [he] at hrun hs hg hln
 refine Qj2 (D:=256<ws.length) s hsl hasc t rs hs hrun (fun x hx=>(hg x hx).1) (fun x hx=>⟨(hg x hx).2.1.1,by have:=(hg x hx).2.1.2;omega⟩) (by omega) (fun e=>e=if ws.length≤256 then 0 else 21) (fun x hx=>?_) (fun h=>by rw [if_neg (by omega)])
 rw [← he] at hx
 have:=ya2 ws x hx
 rw [this]
 split <;> rfl
/-- THE LAW's FUNCTION. -/
def yl0 (c:List UInt8) (j:Nat):Nat:=match c[j]? with
 | some b=>b.toNat%4
 | none=>0
def zc0 (c:List UInt8) (k:Nat):List Nat:=(List.range k).map (yl0 c)
theorem qj2 (c:List UInt8) (k:Nat):zc0 c (k+1)=zc0 c k++[yl0 c k]:=by
 unfold zc0
 rw [List.range_succ,List.map_append];rfl
theorem KZ0 (c:List UInt8) (k:Nat):(zc0 c k).length=k:=by
 unfold zc0;rw [List.length_map,List.length_range]
theorem ze1 (ws:List Nat):(ya0 ws).length≤6*ws.length∧(zP0 ws).length≤6*ws.length:=by
 induction ws with
 | nil=>exact ⟨Nat.le_refl _,Nat.le_refl _⟩
 | cons w ws IH =>
  have h1:=Xv0 (fT w) fun t ht=>(zi1 w t ht).2.1.2
  have h2:=Xv0 (bT w) fun t ht=>(zh1 w t ht).2.1.2
  have:=zB1 w
  have:=zA1 w
  constructor
  ·show (txt (fT w)++ya0 ws).length≤6*(ws.length+1)
   rw [List.length_append];omega
  ·show (zP0 ws++txt (bT w)).length≤6*(ws.length+1)
   rw [List.length_append];omega
noncomputable def mDp (r:Res):List V×Int×List UInt8×List UInt8:=(asEs (slL r 1),uI (slL r 5),uS (slL r 6),uS (slL r 7))
abbrev opsV:List V:=[.str [40],.str [91],.str [123,97,58],.str [34,92,40]]
abbrev clsV:List V:=[.str [41],.str [93],.str [125],.str [41,34]]
theorem opsAt (q:Nat) (h:q<4):opsV[q]?=some (.str (txt (fT q)))∧clsV[q]?=some (.str (txt (bT q))):=by
 match q,h with
 | 0,_=>exact ⟨rfl,rfl⟩
 | 1,_=>exact ⟨rfl,rfl⟩
 | 2,_=>exact ⟨rfl,rfl⟩
 | 3,_=>exact ⟨rfl,rfl⟩
noncomputable abbrev frD (es:List V) (k:Int) (f b:List UInt8) (i:Int):Fr:=(base 6 68).on [(1,.osl 1 es),(5,.int .i64 k),(6,.str f),(7,.str b),(8,.int .i64 i)]
theorem loopD (c:List UInt8) (k:Nat) (hk:k≤300):∀ (d i:Nat),k-i≤d→i≤k→OkL (fun X=>X.Dp (.code (.loop (lpB PP 6 0)) (frD (c.map bV) k (ya0 (zc0 c i)) (zP0 (zc0 c i)) i) Heap.empty)) fun a=>a=(c.map bV,(k:Int),ya0 (zc0 c k),zP0 (zc0 c k)):=by
 intro d
 induction d with
 | zero =>
  intro i hd hi
  have e:i=k:=by omega
  subst e
  refine .tk (R:=rDp (base 6 68)) (L:=mDp) (fun _=>rfl) (fun a=>by kernel_rfl) (Tk.byL (.of (fun m=>qL1 (XL m) _ none some (c.map bV) i (ya0 (zc0 c i)) (zP0 (zc0 c i)) i) ?_))
  exact Rn.decF (by omega) (Rn.ret ⟨_,rfl,rfl⟩)
 | succ d IH =>
  intro i hd hi
  rcases Nat.lt_or_ge i k with hlt | hge
  ·have nx:=IH (i+1) (by omega) (by omega)
   have hf:=(ze1 (zc0 c i)).1
   have hb:=(ze1 (zc0 c i)).2
   rw [KZ0] at hf hb
   rw [qj2,Gt1,Jl1] at nx
   refine .tk (R:=rDp (base 6 68)) (L:=mDp) (fun _=>rfl) (fun a=>by kernel_rfl) (Tk.byL (.of (fun m=>qL1 (XL m) _ none some (c.map bV) k (ya0 (zc0 c i)) (zP0 (zc0 c i)) i) ?_))
   have hlf:=Xv0 (fT (yl0 c i)) fun t ht=>(zi1 _ t ht).2.1.2
   have hlb:=Xv0 (bT (yl0 c i)) fun t ht=>(zh1 _ t ht).2.1.2
   have l1:=zB1 (yl0 c i)
   have l2:=zA1 (yl0 c i)
   refine Rn.decT (by omega) (Rn.dec (fun hc=>?_) (fun hc=>?_))
   ·have hcl:i<c.length:=by rw [List.length_map] at hc;omega
    have hat:(c.map bV)[i]?=some (.int .u8 (c[i].toNat:Int)):=XB0 hcl
    obtain ⟨_,g2,g1⟩:=ldX_b hat
    have e4:((c[i].toNat:Int))%4=((yl0 c i:Nat):Int):=by
     have:yl0 c i=c[i].toNat%4:=by unfold yl0;rw [List.getElem?_eq_getElem hcl]
     rw [this];omega
    have hq:yl0 c i<4:=by unfold yl0;rw [List.getElem?_eq_getElem hcl];exact Nat.mod_lt _ (by decide)
    obtain ⟨o1,o2⟩:=opsAt _ hq
    obtain ⟨_,p2,p1⟩:=Ga0 o1
    obtain ⟨_,r2,r1⟩:=Ga0 o2
    simp only [Int.toNat_natCast,g1,e4,p1,r1]
    refine Rn.nX ⟨by omega,hc⟩ (Rn.need g2 (Rn.need (by omega) (Rn.nI (by omega) (Rn.need (by omega) (Rn.need p2 (Rn.need (by omega) (Rn.need (by omega) (Rn.need r2 (Rn.need (by omega) (Rn.nI (by omega) (Rn.got nx (Rn.ret ⟨_,rfl,rfl⟩))))))))))))
   ·have e0:yl0 c i=0:=by
     unfold yl0
     rw [List.getElem?_eq_none (by rw [List.length_map] at hc;omega)]
    rw [e0] at nx
    obtain ⟨o1,o2⟩:=opsAt 0 (by decide)
    obtain ⟨_,p2,_⟩:=Ga0 (i:=0) o1
    obtain ⟨_,r2,_⟩:=Ga0 (i:=0) o2
    refine Rn.need (by omega) (Rn.need p2 (Rn.need (by omega) (Rn.need (by omega) (Rn.need r2 (Rn.need (by omega) (Rn.nI (by omega) (Rn.got nx (Rn.ret ⟨_,rfl,rfl⟩))))))))
  ·have e:i=k:=by omega
   subst e
   refine .tk (R:=rDp (base 6 68)) (L:=mDp) (fun _=>rfl) (fun a=>by kernel_rfl) (Tk.byL (.of (fun m=>qL1 (XL m) _ none some (c.map bV) i (ya0 (zc0 c i)) (zP0 (zc0 c i)) i) ?_))
   exact Rn.decF (by omega) (Rn.ret ⟨_,rfl,rfl⟩)
theorem Xp1 (n:Int) (h0:0≤n) (h1:n≤65535) (c:List UInt8):Tk (.call 6 [.int .u16 n,.osl 1 (c.map bV)] Heap.empty) (.ret (.bool true) Heap.empty):=by
 have key:∃ r,r=Res.ret (.bool true) Heap.empty∧Tk (.call 6 [.int .u16 n,.osl 1 (c.map bV)] Heap.empty) r:=by
  refine Tk.byL (.of (fun m=>Kv1 (XL m) _ none some n (c.map bV)) ?_)
  obtain ⟨k,hk⟩:∃ k:Nat,n%300=(k:Int):=⟨(n%300).toNat,by omega⟩
  have hk2:k≤300:=by omega
  have hl:=loopD c k hk2 k 0 (by omega) (by omega)
  have hf:=ze1 (zc0 c k)
  rw [KZ0] at hf
  have hs:=Xo1 (zc0 c k) (by rw [KZ0];exact hk2) _ (zk2 (zc0 c k)).symm
  rw [KZ0] at hs
  simp only [hk]
  refine Rn.need (by omega) (Rn.nI (by omega) (Rn.got hl (Rn.need (by show (ya0 (zc0 c k)).length+1≤_;omega) (Rn.need (by show (ya0 (zc0 c k)++[49]).length+(zP0 (zc0 c k)).length≤_;rw [List.length_append,List.length_singleton];omega) (Rn.bndL hs (fun a ha=>?_))))))
  obtain ⟨nd,e,q⟩:=a
  change e=if k≤256 then 0 else 21 at ha
  subst ha
  by_cases h:k≤256
  ·simp only [if_pos h]
   exact Rn.decT trivial (Rn.decT (show (k:Int)≤256 by omega) (Rn.decT trivial (Rn.ret rfl)))
  ·simp only [if_neg h]
   exact Rn.decF (show ¬ ((21:Int)=0) by decide) (Rn.decF (show ¬ ((k:Int)≤256) by omega) (Rn.decF (show ¬ ((21:Int)=0) by decide) (Rn.decT trivial (Rn.ret rfl))))
 obtain ⟨r,rfl,h⟩:=key
 exact h
def jW2:T Bool:=(.n (.n (.n (.n (.n (.n (.n .e true (.n .e true .e)) false .e) false (.n (.n .e true .e) true (.n .e true .e))) false (.n (.n (.n .e true .e) false .e) false (.n .e true .e))) false (.n (.n (.n (.n .e false (.n .e true .e)) true (.n .e true .e)) false (.n (.n (.n .e true .e) true (.n .e true .e)) true (.n .e false (.n .e true .e)))) false (.n (.n (.n (.n .e true .e) true .e) true .e) false (.n (.n (.n .e true .e) false .e) false .e)))) false (.n (.n (.n (.n (.n (.n .e true .e) false .e) false (.n .e true (.n .e true .e))) false (.n (.n .e true .e) true (.n (.n .e true .e) true (.n .e true .e)))) false (.n (.n (.n .e true (.n .e true .e)) true .e) true (.n (.n (.n .e true .e) false (.n .e true .e)) false .e))) false (.n (.n (.n .e true .e) true (.n .e true (.n (.n .e true .e) false .e))) false (.n (.n (.n .e true .e) true .e) false (.n (.n .e true .e) false .e))))) false (.n (.n (.n (.n (.n (.n .e true .e) false (.n .e true .e)) false (.n (.n .e true .e) true (.n .e true (.n .e true .e)))) false (.n (.n (.n (.n .e true .e) true .e) false (.n (.n .e true .e) false .e)) true (.n .e true .e))) false (.n (.n (.n .e true (.n .e true .e)) true (.n .e true (.n (.n .e true .e) true (.n .e true .e)))) false (.n (.n (.n (.n .e true .e) true .e) true .e) false (.n (.n (.n .e true .e) false .e) false .e)))) false (.n (.n (.n (.n .e true (.n .e true .e)) false (.n (.n (.n .e true .e) true .e) true (.n .e true (.n .e true .e)))) false (.n (.n (.n .e true .e) true .e) true (.n (.n (.n .e true .e) false .e) false .e))) false (.n (.n (.n (.n (.n .e true .e) false (.n .e true .e)) true .e) false (.n .e true .e)) false (.n (.n (.n (.n .e true .e) true .e) true .e) false (.n (.n .e true .e) false .e))))))
def ym2:T Bool:=(.n (.n (.n (.n (.n .e false (.n (.n .e true .e) true (.n .e true .e))) false (.n .e false (.n .e true .e))) false (.n (.n .e false (.n (.n .e true .e) false .e)) false (.n (.n .e true .e) false (.n (.n (.n .e true .e) false .e) false .e)))) false (.n (.n (.n (.n .e false (.n .e true .e)) false (.n (.n .e true .e) true (.n .e true .e))) false (.n (.n (.n .e true .e) true .e) false (.n (.n (.n .e true .e) false .e) false .e))) false (.n (.n .e false (.n .e false (.n (.n .e true .e) false .e))) false (.n (.n (.n .e true .e) true .e) false .e)))) false (.n (.n (.n (.n (.n .e false (.n .e true .e)) false (.n .e true (.n .e true .e))) false .e) false (.n (.n .e false (.n .e true (.n .e true .e))) false (.n (.n .e true .e) false (.n (.n (.n .e true .e) false .e) false .e)))) false (.n (.n (.n (.n .e false (.n .e true .e)) false (.n (.n .e true .e) false (.n .e true .e))) false (.n (.n (.n .e true .e) true .e) true (.n (.n (.n .e true .e) false .e) false .e))) false (.n (.n .e false (.n .e true .e)) false (.n (.n .e true .e) false .e)))))
noncomputable def EK0:Env:={ shared:=T.get false jW2,pubRet:=T.get false ym2,prim:=fun _ _=>none,glob:=KJ0 }
theorem names:yK0 Tryz.prog:=zh2 (by kernel_rfl)
theorem snd0:Snd Tryz.prog EK0 (run Tryz.prog EK0 1000000):=yo1 names (zZ2 rfl) _
theorem Jd1:yS1=asciiZ.map (V.int .u8):=by kernel_rfl
def yy1:List (List UInt8×V):=[([97,110,100,32,97,115,32,98,114,101,97,107,32,99,97,116,99,104,32,100,101,102,32,101,108,105,102,32,101,108,115,101,32,101,110,100,32,102,111,114,101,97,99,104,32,105,102,32,105,109,112,111,114,116,32,105,110,99,108,117,100,101,32,108,97,98,101,108,32,109,111,100,117,108,101,32,111,114,32,114,101,100,117,99,101,32,116,104,101,110,32,116,114,121],(.fsl 9 1 0 [(.str [97,110,100]),(.str [97,115]),(.str [98,114,101,97,107]),(.str [99,97,116,99,104]),(.str [100,101,102]),(.str [101,108,105,102]),(.str [101,108,115,101]),(.str [101,110,100]),(.str [102,111,114,101,97,99,104]),(.str [105,102]),(.str [105,109,112,111,114,116]),(.str [105,110,99,108,117,100,101]),(.str [108,97,98,101,108]),(.str [109,111,100,117,108,101]),(.str [111,114]),(.str [114,101,100,117,99,101]),(.str [116,104,101,110]),(.str [116,114,121])] (.some 18))),([124],(.fsl 9 1 0 [(.str [124])] (.some 1))),([44],(.fsl 9 1 0 [(.str [44])] (.some 1))),([47,47],(.fsl 9 1 0 [(.str [47,47])] (.some 1))),([61,32,124,61,32,43,61,32,45,61,32,42,61,32,47,61,32,37,61,32,47,47,61],(.fsl 9 1 0 [(.str [61]),(.str [124,61]),(.str [43,61]),(.str [45,61]),(.str [42,61]),(.str [47,61]),(.str [37,61]),(.str [47,47,61])] (.some 8))),([111,114],(.fsl 9 1 0 [(.str [111,114])] (.some 1))),([97,110,100],(.fsl 9 1 0 [(.str [97,110,100])] (.some 1))),([61,61,32,33,61,32,60,32,60,61,32,62,32,62,61],(.fsl 9 1 0 [(.str [61,61]),(.str [33,61]),(.str [60]),(.str [60,61]),(.str [62]),(.str [62,61])] (.some 6))),([43,32,45],(.fsl 9 1 0 [(.str [43]),(.str [45])] (.some 2))),([42,32,47,32,37],(.fsl 9 1 0 [(.str [42]),(.str [47]),(.str [37])] (.some 3)))]
theorem Ys1:ckT Tryz.prog EK0 1000000 200 yy1=true:=by kernel_rfl
def zL1:List (FuncId×List (List UInt8×V)):=[(200,yy1)]
noncomputable def E1:Env:={ EK0 with prim:=XD0 zL1 [] }
theorem prim1:yL0 Tryz.prog E1:=zO1 (TT:=zL1) (T0:=[]) rfl (fun p hp=>by
 simp only [zL1,List.mem_cons,List.not_mem_nil,or_false] at hp
 subst hp
 exact Xh0 snd0 Ys1
 ) (fun q hq=>by cases hq)
theorem snd1:Snd Tryz.prog E1 (run Tryz.prog E1 1000000):=yo1 names prim1 _
def Yt1:List (List UInt8×V):=[([],(.int .i64 0)),([124],(.int .i64 1)),([44],(.int .i64 2)),([47,47],(.int .i64 3)),([61],(.int .i64 4)),([124,61],(.int .i64 4)),([43,61],(.int .i64 4)),([45,61],(.int .i64 4)),([42,61],(.int .i64 4)),([47,61],(.int .i64 4)),([37,61],(.int .i64 4)),([47,47,61],(.int .i64 4)),([111,114],(.int .i64 5)),([97,110,100],(.int .i64 6)),([61,61],(.int .i64 7)),([33,61],(.int .i64 7)),([60],(.int .i64 7)),([60,61],(.int .i64 7)),([62],(.int .i64 7)),([62,61],(.int .i64 7)),([43],(.int .i64 8)),([45],(.int .i64 8)),([42],(.int .i64 9)),([47],(.int .i64 9)),([37],(.int .i64 9))]
theorem QD2:ckT Tryz.prog E1 1000000 118 Yt1=true:=by kernel_rfl
def Yu1:List (List UInt8×V):=[([],(.int .i64 0)),([124],(.int .i64 1)),([44],(.int .i64 3)),([47,47],(.int .i64 3)),([61],(.int .i64 5)),([124,61],(.int .i64 5)),([43,61],(.int .i64 5)),([45,61],(.int .i64 5)),([42,61],(.int .i64 5)),([47,61],(.int .i64 5)),([37,61],(.int .i64 5)),([47,47,61],(.int .i64 5)),([111,114],(.int .i64 6)),([97,110,100],(.int .i64 7)),([61,61],(.int .i64 8)),([33,61],(.int .i64 8)),([60],(.int .i64 8)),([60,61],(.int .i64 8)),([62],(.int .i64 8)),([62,61],(.int .i64 8)),([43],(.int .i64 9)),([45],(.int .i64 9)),([42],(.int .i64 10)),([47],(.int .i64 10)),([37],(.int .i64 10))]
theorem QE2:ckT Tryz.prog E1 1000000 119 Yu1=true:=by kernel_rfl
def tSide:List (List UInt8×V):=[([],(.int .i64 0)),([124],(.int .i64 2)),([44],(.int .i64 1)),([47,47],(.int .i64 2)),([61],(.int .i64 0)),([124,61],(.int .i64 0)),([43,61],(.int .i64 0)),([45,61],(.int .i64 0)),([42,61],(.int .i64 0)),([47,61],(.int .i64 0)),([37,61],(.int .i64 0)),([47,47,61],(.int .i64 0)),([111,114],(.int .i64 1)),([97,110,100],(.int .i64 1)),([61,61],(.int .i64 0)),([33,61],(.int .i64 0)),([60],(.int .i64 0)),([60,61],(.int .i64 0)),([62],(.int .i64 0)),([62,61],(.int .i64 0)),([43],(.int .i64 1)),([45],(.int .i64 1)),([42],(.int .i64 1)),([47],(.int .i64 1)),([37],(.int .i64 1))]
theorem QF2:ckT Tryz.prog E1 1000000 120 tSide=true:=by kernel_rfl
def zM1:List (FuncId×List (List UInt8×V)):=[(200,yy1),(118,Yt1),(119,Yu1),(120,tSide)]
noncomputable def E2:Env:={ EK0 with prim:=XD0 zM1 [] }
theorem prim2:yL0 Tryz.prog E2:=zO1 (TT:=zM1) (T0:=[]) rfl (fun p hp=>by
 simp only [zM1,List.mem_cons,List.not_mem_nil,or_false] at hp
 rcases hp with rfl | rfl | rfl | rfl
 ·exact Xh0 snd0 Ys1
 ·exact Xh0 snd1 QD2
 ·exact Xh0 snd1 QE2
 ·exact Xh0 snd1 QF2
 ) (fun q hq=>by cases hq)
theorem snd2:Snd Tryz.prog E2 (run Tryz.prog E2 1000000):=yo1 names prim2 _
theorem globOk {S:Nat→Nat→Option Value} (h:∀ i,i<256→S 0 i=some (.int .u8 (asciiZ.getD i 0))):GlobOk KJ0 S:=by
 intro gl x hx
 unfold KJ0 at hx
 obtain ⟨hb,hx⟩:=qi0 hx rfl
 rw [Nat.beq_eq] at hb;subst hb
 cases hx
 rw [Jd1]
 exact tab_gr (by kernel_rfl) (by decide) h
noncomputable def resO (r:Res):Option V:=match r with
 | .ret y hc=>Yx0 hc y
 | _=>none
theorem yd1 {P:Program} {E:Env} {ih:Task→Res} (hS:Snd P E ih) {f:FuncId} {gs:List V} {v:V} (h:resO (ih (.call f gs Heap.empty))=some v):PureOk P E.glob f gs v:=by
 unfold resO at h
 split at h
 ·rename_i y hc hr
  exact PureOk.of_run hS hr h
 ·cases h
theorem zY2:∀ q,q∈Gv0→PureOk PP EP.glob q.1 [] q.2:=fun q hq=>by
 simp only [Gv0,List.mem_cons,List.not_mem_nil,or_false] at hq
 rcases hq with rfl | rfl | rfl
 ·exact yd1 (hS:=snd2) (by kernel_rfl)
 ·exact yd1 (hS:=snd2) (by kernel_rfl)
 ·exact yd1 (hS:=snd2) (by kernel_rfl)
theorem primP:yL0 PP EP:=zO1 (TT:=[]) (T0:=Gv0) rfl (fun p hp=>by cases hp) zY2
/-- A machine's run is a contract. -/
theorem cx_rn {P:Program} {E:Env} {C:Cf} {N:Nat} {f:FuncId} {args:List V} {h h':Heap} {v:V} (hr:rn P E C N (.call f args h)=.ret v h') {R':V→Heap→Prop} (hR:R' v h'):Cx P E f args h R':=fun hF _ _ _ _ cs us hW hG hs=>⟨v,h',hR,by
 have:=(rn_snd (C:=C) hF.names hF.prim N).call cs f args us hW hG hs
 rw [hr] at this
 exact this⟩
theorem Cx.told {P:Program} {E:Env} {f:FuncId} {a b:List V} {h:Heap} {R':V→Heap→Prop} (hw:Wks b a) (H:Cx P E f a h R'):Cx P E f b h R':=fun hF _ _ _ _ cs us hW hG hs=>H hF cs us hW hG (hw.rs hs)
theorem Bs.wk {x:V} {l:List UInt8} (h:Bs x l):Wk x (.osl 1 (l.map bV)):=by
 rcases h with ⟨rfl,rfl⟩ | rfl
 ·exact Wk.nils 1
 ·exact Wk.gsl
theorem wks2L {a b a' b':V} (h0:Wk a a') (h1:Wk b b'):Wks [a,b] [a',b']:=by
 refine ⟨rfl,fun i x y p q=>?_⟩
 match i,p,q with
 | 0,p,q=>cases p;cases q;exact h0
 | 1,p,q=>cases p;cases q;exact h1
 | i+2,p,q=>cases p
theorem parseDeep_walk (n:Int) (h0:0≤n) (h1:n≤65535) (x1:V) (l1:List UInt8) (hx:Bs x1 l1):Cx PP EP 6 [.int .u16 n,x1] Heap.empty (fun v _=>v=.bool true):=by
 obtain ⟨m,h⟩:=Xp1 n h0 h1 l1
 exact Cx.told (wks2L (.refl _) hx.wk) (cx_rn (h m (Nat.le_refl m)) rfl)
end Go.AM
