/-
  WHAT FUNCTIONS OF THE PROGRAM COME TO, told by the machine, and plain laws of it. No condition but what each theorem says of its arguments.
-/
import Derived.Test.YtcfdhkmbooipbaaGreatDoorTd7
namespace Go.AM
open Go.Proofs
set_option maxRecDepth 100000
set_option maxHeartbeats 4000000
/-- WHAT tidy.Spread COMES TO. -/
abbrev Sq:=List V×Option (List V×List V)
noncomputable def nt (es:List V) (n:Nat):List V:=gE 4 es (n*4) 3
noncomputable def cnt (ms:List V) (n:Nat):Bool:=decide (ms.length≤n)||!(gB 1 ms (n*1) 0)
def qG0 (N:List V) (c:Bool):Sq→Sq
 | (ld,none)=>bif c then (ld,some ([],N)) else (ld++N,none)
 | (ld,some (o,l))=>bif c then (ld,some (o++[.osl 1 l],N)) else (ld,some (o,l++N))
noncomputable def qe0 (es ms:List V):Nat→Nat→Sq→Sq
 | 0,_,q=>q
 | d+1,n,q=>qe0 es ms d (n+1) (qG0 (nt es n) (cnt ms n) q)
theorem KQ1 {N:List V} {c:Bool} {ld:List V} {p:List V×List V}:∃ p',qG0 N c (ld,some p)=(ld,some p'):=by
 obtain ⟨o,l⟩:=p
 cases c
 ·exact ⟨_,rfl⟩
 ·exact ⟨_,rfl⟩
theorem zf1 (es ms:List V) (d:Nat):∀ (n:Nat) (ld:List V) (p:List V×List V),∃ p',qe0 es ms d n (ld,some p)=(ld,some p'):=by
 induction d with
 | zero=>intro n ld p;exact ⟨p,rfl⟩
 | succ d IH =>
  intro n ld p
  obtain ⟨p',h⟩:=KQ1 (N:=nt es n) (c:=cnt ms n) (ld:=ld) (p:=p)
  show ∃ p',qe0 es ms d (n+1) (qG0 _ _ _)=_
  rw [h]
  exact IH _ _ _
structure Out (es ms:List V) (q0 q:Sq) (a:Sp):Prop where
 es:a.es=es
 ms:a.ms=ms
 u:a.u=!qb0 q.1
 l1:a.u=true→a.l1=q.1∧a.n1=q.1.length
 s:a.s=q.2.isSome
 o:∀ o l,q.2=some (o,l)→a.l2=o∧a.n2=o.length+1∧a.o=o.length∧a.t=!qb0 l∧(a.t=true→a.l3=l∧a.n3=l.length)
 w:a.s=true→a.w=true→∃ o l,q0.2=some (o,l)∧l≠[]
 g1:GndR q.1
 g2:∀ o l,q.2=some (o,l)→GndR o∧GndR l
 g4:a.s=true→a.w=true→GndR a.l4
 v:∀ o l,q0.2=some (o,l)→l≠[]→a.t=false→a.w=true
theorem Out.now {es ms:List V} {q0 q1 q:Sq} {a:Sp} (h:Out es ms q1 q a) (hv:∀ o l,q0.2=some (o,l)→l≠[]→a.t=true):Out es ms q0 q { a with w:=false } :=
 ⟨h.es,h.ms,h.u,h.l1,h.s,h.o,(fun _ e=>by cases e),h.g1,h.g2,(fun _ e=>by cases e),(fun o l e hl ht=>by have:=hv o l e hl;exact absurd (this.symm.trans ht) (by decide))⟩
theorem Out.gl1 {es ms:List V} {q0 q:Sq} {a:Sp} (h:Out es ms q0 q a) (hu:a.u=true):GndR a.l1:=by rw [(h.l1 hu).1];exact h.g1
theorem Out.gl2 {es ms:List V} {q0 q:Sq} {a:Sp} (h:Out es ms q0 q a) (hs:a.s=true):GndR a.l2:=by
 have:=h.s
 rw [hs] at this
 obtain ⟨ld,x⟩:=q
 cases x with
 | none=>cases this
 | some p=>rw [(h.o p.1 p.2 rfl).1];exact (h.g2 p.1 p.2 rfl).1
theorem Out.gl3 {es ms:List V} {q0 q:Sq} {a:Sp} (h:Out es ms q0 q a) (hs:a.s=true) (ht:a.t=true):GndR a.l3:=by
 have:=h.s
 rw [hs] at this
 obtain ⟨ld,x⟩:=q
 cases x with
 | none=>cases this
 | some p=>rw [((h.o p.1 p.2 rfl).2.2.2.2 ht).1];exact (h.g2 p.1 p.2 rfl).2
def QS (fr:Fr) (P:Sp→Prop) (r:Res):Prop:=∃ a,r=rSp fr a.s a.t a.u a.w a∧P a
theorem QS.mk {fr:Fr} {P:Sp→Prop} {r:Res} (a:Sp) (h:r=rSp fr a.s a.t a.u a.w a) (hP:P a):QS fr P r:=⟨a,h,hP⟩
noncomputable def lpT (es:List V) (n:Int) (h:Heap):Task:=.code (.loop (lpB PP 28 0)) ((base 28 29).on [(0,.func (.yield 6) [] []),(2,.ptr 4 0 0),(6,.osl 4 es),(7,.int .i64 es.length),(8,.int .i64 n)]) h
noncomputable def szQ (es:List V):Nat→Nat→Nat
 | 0,_=>0
 | d+1,n=>(nt es n).length+szQ es d (n+1)
structure En (es ms:List V):Prop where
 len:es.length≤1073741824
 ldc:∀ n,n<es.length→ldC PP 41 4 es (n*4)
 ldx:∀ n,n<ms.length→ldX PP 4 1 ms (n*1)
 gnt:∀ n,n<es.length→GndR (nt es n)
def qD0:Sq→Nat
 | (_,none)=>0
 | (_,some (_,l))=>l.length
def qA0:Sq→Nat
 | (_,none)=>0
 | (_,some (o,_))=>o.length+1
structure OkQ (es:List V) (d n:Nat) (q:Sq):Prop where
 at':n+d=es.length
 sum:q.1.length+qD0 q+szQ es d n≤68719476736
 out:qA0 q≤n
 g1:GndR q.1
 g2:∀ o l,q.2=some (o,l)→GndR o∧GndR l
theorem GndR.app {a b:List V} (ha:GndR a) (hb:GndR b):GndR (a++b):=fun e he=>(List.mem_append.1 he).elim (ha e) (hb e)
theorem GndR.nil:GndR []:=fun e he=>by cases he
theorem QU0 (l:List V):GndR [V.osl 1 l]:=fun e he=>by
 rw [List.mem_singleton] at he
 subst he
 rfl
noncomputable def hS (es ms:List V) (v1 n1 v2 n2 k v3 n3:Nat):Sq→Heap
 | ([],none)=>hpS es ms .nils .nils (.ptr 0 0 0) []
 | (a::b,none)=>hpS es ms (.sl 7 v1 0 n1 none) .nils (.ptr 0 0 0) [rwT v1 (a::b)]
 | ([],some (o,[]))=>hpS es ms .nils (.sl 7 v2 0 n2 none) (.ptr 7 v2 k) [rwO v2 o .nils]
 | (a::b,some (o,[]))=>hpS es ms (.sl 7 v1 0 n1 none) (.sl 8 v2 0 n2 none) (.ptr 8 v2 k) [rwT v1 (a::b),rwO v2 o .nils]
 | ([],some (o,c::l))=>hpS es ms .nils (.sl 7 v2 0 n2 none) (.ptr 7 v2 k) [rwO v2 o (.sl 8 v3 0 n3 none),rwT v3 (c::l)]
 | (a::b,some (o,c::l))=>hpS es ms (.sl 7 v1 0 n1 none) (.sl 8 v2 0 n2 none) (.ptr 8 v2 k) [rwT v1 (a::b),rwO v2 o (.sl 9 v3 0 n3 none),rwT v3 (c::l)]
theorem Rn.joinC {c:Prop} {s:Nat→Option Res} {F:Option Res→Nat→Option Res} {Q:Res→Prop} (hs:c→Rn s Q) (hF:∀ (j:Nat→Option Res),(c→Rn j Q)→Rn (fun n=>F (j n) n) Q):Rn (fun n=>jn (s n) (fun j=>F j n)) Q:=hF s hs
def Nx (es ms:List V) (d n:Nat):Prop:=∀ (v1 n1 v2 n2 k v3 n3:Nat) (q:Sq),OkQ es d n q→n1=q.1.length→n2=qA0 q→k=qA0 q-1→n3=qD0 q→OkT (fun X=>X.Sp (lpT es (n:Nat) (hS es ms v1 n1 v2 n2 k v3 n3 q))) (Out es ms q (qe0 es ms d n q))
theorem qY0 {l:List V} (h:qb0 l=true):l=[]:=by cases l with | nil=>rfl | cons _ _=>cases h
theorem Ye0 {l:List V} (h:qb0 l=false):l≠[]:=by cases l with | nil=>cases h | cons _ _=>exact fun e=>by cases e
theorem OkQ.next {es ms:List V} (E:En es ms) {d n:Nat} {q:Sq} (h:OkQ es (d+1) n q) (c:Bool):OkQ es d (n+1) (qG0 (nt es n) c q):=by
 have hlt:n<es.length:=by have:=h.at';omega
 have hg:=E.gnt n hlt
 have h0:=h.at'
 have h1:=h.sum
 have h2:=h.out
 obtain ⟨ld,x⟩:=q
 change ld.length+qD0 (ld,x)+((nt es n).length+szQ es d (n+1))≤_ at h1
 cases x with
 | none =>
  cases c with
  | true =>
   refine ⟨by omega,?_,?_,h.g1,fun o l e=>?_⟩
   ·show ld.length+(nt es n).length+szQ es d (n+1)≤_
    simp only [qD0] at h1;omega
   ·show 0+1≤n+1;omega
   ·cases e;exact ⟨GndR.nil,hg⟩
  | false =>
   refine ⟨by omega,?_,?_,h.g1.app hg,fun o l e=>by cases e⟩
   ·show (ld++nt es n).length+0+szQ es d (n+1)≤_
    simp only [qD0,List.length_append] at h1 ⊢;omega
   ·show 0≤n+1;omega
 | some p =>
  obtain ⟨o,l⟩:=p
  obtain ⟨g1,g2⟩:=h.g2 o l rfl
  simp only [qD0,qA0] at h1 h2
  cases c with
  | true =>
   refine ⟨by omega,?_,?_,h.g1,fun o' l' e=>?_⟩
   ·show ld.length+(nt es n).length+szQ es d (n+1)≤_
    omega
   ·show (o++[V.osl 1 l]).length+1≤n+1
    simp only [List.length_append,List.length_cons,List.length_nil];omega
   ·cases e;exact ⟨g1.app (QU0 l),hg⟩
  | false =>
   refine ⟨by omega,?_,?_,h.g1,fun o' l' e=>?_⟩
   ·show ld.length+(l++nt es n).length+szQ es d (n+1)≤_
    simp only [List.length_append];omega
   ·show o.length+1≤n+1;omega
   ·cases e;exact ⟨g1,g2.app hg⟩
theorem rC {es ms:List V} (E:En es ms) {d n v1 n1 v2 n2 k v3 n3:Nat} {o:List V} (h:OkQ es (d+1) n ([],some (o,[]))) (IH:Nx es ms d (n+1)) (h2:n2=o.length+1) (hk:k=o.length) :
 Rn (fun m=>evN PP EP CP (qy0 (XT m)) (rn PP EP CP m) none (lpT es n (hS es ms v1 n1 v2 n2 k v3 n3 ([],some (o,[])))) some) (QS ((base 28 29).on [(0,.func (.yield 6) [] []),(2,.ptr 4 0 0),(6,.osl 4 es),(7,.int .i64 es.length),(8,.int .i64 n)]) (Out es ms ([],some (o,[])) (qe0 es ms (d+1) n ([],some (o,[]))))):=by
 subst h2 hk
 refine .of (fun m=>qZ1 (XT m) _ none some es ms n v2 (o.length+1) o.length o) ?_
 have e0:Nat.add (o.length+1) 1=o.length+1+1:=rfl
 have e1:(0+Int.toNat ((↑(o.length+1+1):Int)-1))*1=o.length+1:=by omega
 have e2:(o++[V.osl 1 []]).length=o.length+1:=by simp
 have hN:gE 4 es (Int.toNat (n:Int)*4) 3=nt es n:=rfl
 have hlt:n<es.length:=by have:=h.at';omega
 have hl:=E.len
 have ho:o.length+1≤n:=h.out
 simp only [e0,e1,e2,hN]
 refine .decT (by omega) (.nX ⟨by omega,by omega⟩ (.need (E.ldc n hlt) ?_))
 have hgo:GndR (o++[V.osl 1 []]):=(h.g2 o [] rfl).1.app (QU0 [])
 refine .joinC (c:=cnt ms n=true) (fun hc=>?_) (fun j hj=>?_)
 ·have hf:qe0 es ms (d+1) n ([],some (o,[]))=qe0 es ms d (n+1) ([],some (o++[V.osl 1 []],nt es n)):=by
   show qe0 es ms d (n+1) (qG0 _ (cnt ms n) _)=_
   rw [hc];rfl
  have hq:OkQ es d (n+1) ([],some (o++[V.osl 1 []],nt es n)):=h.next E true
  rw [hf]
  have hsz:(nt es n).length≤68719476736:=by have:=hq.sum;simp only [qD0] at this;omega
  have hgN:=E.gnt n hlt
  refine .need ⟨trivial,trivial,trivial,by omega,by omega,by omega⟩ (.nI ⟨by omega,by omega⟩ (.need ⟨by omega,by omega⟩ (.need ⟨trivial,by omega⟩ ?_)))
  refine .cond (fun hn=>?_) (fun hn=>?_)
  ·have hn:=qY0 hn
   rw [hn] at hq ⊢
   refine .need ⟨trivial,by omega,by omega⟩ (.need rfl (.nI ⟨by omega,by omega⟩ (.need hgo (.need hgo ?_))))
   refine .bndT (IH 0 0 (v2+1) (o.length+1+1) (o.length+1) 0 0 _ hq rfl (by simp [qA0]) (by simp [qA0]) rfl) (fun a ha=>?_)
   repeat' (with_reducible first | refine Rn.need (Out.gl1 ha (by assumption)) ?_ | refine Rn.need (Out.gl2 ha (by assumption)) ?_ | refine Rn.need (Out.gl3 ha (by assumption) (by assumption)) ?_ | refine Rn.need (Out.g4 ha (by assumption) (by assumption)) ?_ | refine Rn.cond (fun _=>?_) (fun _=>?_) | refine Rn.jo ?_)
   all_goals (refine Rn.ret (QS.mk { a with w:=false } ?_ (Out.now ha ?_));rotate_left;(first | (intro _ _ e hl;cases e;done) | (intro _ _ e hl;cases e;exact absurd rfl hl) | (intro _ _ _ _;assumption));show _=rSp _ (Sp.s a) (Sp.t a) (Sp.u a) false _;(first | (rw [‹Sp.s a=true›,‹Sp.t a=true›,‹Sp.u a=true›];rfl) | (rw [‹Sp.s a=true›,‹Sp.t a=true›,‹Sp.u a=false›];rfl) | (rw [‹Sp.s a=true›,‹Sp.t a=false›,‹Sp.u a=true›];rfl) | (rw [‹Sp.s a=true›,‹Sp.t a=false›,‹Sp.u a=false›];rfl) | (rw [‹Sp.s a=false›,‹Sp.t a=true›,‹Sp.u a=true›];rfl) | (rw [‹Sp.s a=false›,‹Sp.t a=true›,‹Sp.u a=false›];rfl) | (rw [‹Sp.s a=false›,‹Sp.t a=false›,‹Sp.u a=true›];rfl) | (rw [‹Sp.s a=false›,‹Sp.t a=false›,‹Sp.u a=false›];rfl)))
  ·obtain ⟨c,l,hcl⟩:∃ c l,nt es n=c::l:=by
    cases hx:nt es n with
    | nil=>rw [hx] at hn;cases hn
    | cons c l=>exact ⟨c,l,rfl⟩
   rw [hcl] at hq hsz hgN ⊢
   refine .need ⟨(fun e=>by cases e),by omega,by omega⟩ (.need ⟨trivial,by omega,by omega⟩ (.need rfl (.nI ⟨by omega,by omega⟩ (.need hgo (.need hgN (.need hgo (.need hgN ?_)))))))
   refine .bndT (IH 0 0 (v2+1) (o.length+1+1) (o.length+1) 0 (c::l).length _ hq rfl (by simp [qA0]) (by simp [qA0]) rfl) (fun a ha=>?_)
   repeat' (with_reducible first | refine Rn.need (Out.gl1 ha (by assumption)) ?_ | refine Rn.need (Out.gl2 ha (by assumption)) ?_ | refine Rn.need (Out.gl3 ha (by assumption) (by assumption)) ?_ | refine Rn.need (Out.g4 ha (by assumption) (by assumption)) ?_ | refine Rn.cond (fun _=>?_) (fun _=>?_) | refine Rn.jo ?_)
   all_goals (refine Rn.ret (QS.mk { a with w:=false } ?_ (Out.now ha ?_));rotate_left;(first | (intro _ _ e hl;cases e;done) | (intro _ _ e hl;cases e;exact absurd rfl hl) | (intro _ _ _ _;assumption));show _=rSp _ (Sp.s a) (Sp.t a) (Sp.u a) false _;(first | (rw [‹Sp.s a=true›,‹Sp.t a=true›,‹Sp.u a=true›];rfl) | (rw [‹Sp.s a=true›,‹Sp.t a=true›,‹Sp.u a=false›];rfl) | (rw [‹Sp.s a=true›,‹Sp.t a=false›,‹Sp.u a=true›];rfl) | (rw [‹Sp.s a=true›,‹Sp.t a=false›,‹Sp.u a=false›];rfl) | (rw [‹Sp.s a=false›,‹Sp.t a=true›,‹Sp.u a=true›];rfl) | (rw [‹Sp.s a=false›,‹Sp.t a=true›,‹Sp.u a=false›];rfl) | (rw [‹Sp.s a=false›,‹Sp.t a=false›,‹Sp.u a=true›];rfl) | (rw [‹Sp.s a=false›,‹Sp.t a=false›,‹Sp.u a=false›];rfl)))
 ·refine .dec (fun hc=>hj ?_) (fun hc=>.nX ⟨by omega,by omega⟩ (.need (E.ldx n (by omega)) (.cond (fun hb=>?_) (fun hb=>hj ?_))))
  ·unfold cnt;rw [decide_eq_true (by omega)];rfl
  ·have hc:cnt ms n=false:=by
    unfold cnt
    rw [decide_eq_false (by omega),show gB 1 ms (n*1) 0=true from hb];rfl
   have hf:qe0 es ms (d+1) n ([],some (o,[]))=qe0 es ms d (n+1) ([],some (o,nt es n)):=by
    show qe0 es ms d (n+1) (qG0 _ (cnt ms n) _)=_
    rw [hc];rfl
   have hq:OkQ es d (n+1) ([],some (o,nt es n)):=h.next E false
   rw [hf]
   have hsz:(nt es n).length≤68719476736:=by have:=hq.sum;simp only [qD0] at this;omega
   have hgN:=E.gnt n hlt
   have hgo:=(h.g2 o [] rfl).1
   refine .need ⟨trivial,by omega⟩ ?_
   refine .cond (fun hn=>?_) (fun hn=>?_)
   ·have hn:=qY0 hn
    rw [hn] at hq ⊢
    refine .need ⟨trivial,by omega,by omega⟩ (.need rfl (.nI ⟨by omega,by omega⟩ (.need hgo (.need hgo ?_))))
    refine .bndT (IH 0 0 v2 (o.length+1) o.length 0 0 _ hq rfl rfl rfl rfl) (fun a ha=>?_)
    repeat' (with_reducible first | refine Rn.need (Out.gl1 ha (by assumption)) ?_ | refine Rn.need (Out.gl2 ha (by assumption)) ?_ | refine Rn.need (Out.gl3 ha (by assumption) (by assumption)) ?_ | refine Rn.need (Out.g4 ha (by assumption) (by assumption)) ?_ | refine Rn.cond (fun _=>?_) (fun _=>?_) | refine Rn.jo ?_)
    all_goals (refine Rn.ret (QS.mk { a with w:=false } ?_ (Out.now ha ?_));rotate_left;(first | (intro _ _ e hl;cases e;done) | (intro _ _ e hl;cases e;exact absurd rfl hl) | (intro _ _ _ _;assumption));show _=rSp _ (Sp.s a) (Sp.t a) (Sp.u a) false _;(first | (rw [‹Sp.s a=true›,‹Sp.t a=true›,‹Sp.u a=true›];rfl) | (rw [‹Sp.s a=true›,‹Sp.t a=true›,‹Sp.u a=false›];rfl) | (rw [‹Sp.s a=true›,‹Sp.t a=false›,‹Sp.u a=true›];rfl) | (rw [‹Sp.s a=true›,‹Sp.t a=false›,‹Sp.u a=false›];rfl) | (rw [‹Sp.s a=false›,‹Sp.t a=true›,‹Sp.u a=true›];rfl) | (rw [‹Sp.s a=false›,‹Sp.t a=true›,‹Sp.u a=false›];rfl) | (rw [‹Sp.s a=false›,‹Sp.t a=false›,‹Sp.u a=true›];rfl) | (rw [‹Sp.s a=false›,‹Sp.t a=false›,‹Sp.u a=false›];rfl)))
   ·obtain ⟨c,l,hcl⟩:∃ c l,nt es n=c::l:=by
     cases hx:nt es n with
     | nil=>rw [hx] at hn;cases hn
     | cons c l=>exact ⟨c,l,rfl⟩
    rw [hcl] at hq hsz hgN ⊢
    refine .need ⟨(fun e=>by cases e),by omega,by omega⟩ (.need ⟨trivial,by omega,by omega⟩ (.need rfl (.nI ⟨by omega,by omega⟩ (.need hgo (.need hgN (.need hgo (.need hgN ?_)))))))
    refine .bndT (IH 0 0 v2 (o.length+1) o.length 0 (c::l).length _ hq rfl rfl rfl rfl) (fun a ha=>?_)
    repeat' (with_reducible first | refine Rn.need (Out.gl1 ha (by assumption)) ?_ | refine Rn.need (Out.gl2 ha (by assumption)) ?_ | refine Rn.need (Out.gl3 ha (by assumption) (by assumption)) ?_ | refine Rn.need (Out.g4 ha (by assumption) (by assumption)) ?_ | refine Rn.cond (fun _=>?_) (fun _=>?_) | refine Rn.jo ?_)
    all_goals (refine Rn.ret (QS.mk { a with w:=false } ?_ (Out.now ha ?_));rotate_left;(first | (intro _ _ e hl;cases e;done) | (intro _ _ e hl;cases e;exact absurd rfl hl) | (intro _ _ _ _;assumption));show _=rSp _ (Sp.s a) (Sp.t a) (Sp.u a) false _;(first | (rw [‹Sp.s a=true›,‹Sp.t a=true›,‹Sp.u a=true›];rfl) | (rw [‹Sp.s a=true›,‹Sp.t a=true›,‹Sp.u a=false›];rfl) | (rw [‹Sp.s a=true›,‹Sp.t a=false›,‹Sp.u a=true›];rfl) | (rw [‹Sp.s a=true›,‹Sp.t a=false›,‹Sp.u a=false›];rfl) | (rw [‹Sp.s a=false›,‹Sp.t a=true›,‹Sp.u a=true›];rfl) | (rw [‹Sp.s a=false›,‹Sp.t a=true›,‹Sp.u a=false›];rfl) | (rw [‹Sp.s a=false›,‹Sp.t a=false›,‹Sp.u a=true›];rfl) | (rw [‹Sp.s a=false›,‹Sp.t a=false›,‹Sp.u a=false›];rfl)))
  ·unfold cnt;rw [show gB 1 ms (n*1) 0=false from hb];simp
theorem Out.us {es ms:List V} {q0:Sq} {d n:Nat} {ld:List V} {p:List V×List V} {a:Sp} (h:Out es ms q0 (qe0 es ms d n (ld,some p)) a):a.u=!qb0 ld∧a.s=true:=by
 obtain ⟨p',e⟩:=zf1 es ms d n ld p
 rw [e] at h
 exact ⟨h.u,h.s⟩
theorem Rn.abs {e:Nat→Option Res} {Q:Res→Prop} {b:Bool} (h1:b=true) (h2:b=false):Rn e Q:=absurd (h1.symm.trans h2) (by decide)
theorem rE {es ms:List V} (E:En es ms) {d n v1 n1 v2 n2 k v3 n3:Nat} {x:V} {y o:List V} (h:OkQ es (d+1) n (x::y,some (o,[]))) (IH:Nx es ms d (n+1)) (h1:n1=(x::y).length) (h2:n2=o.length+1) (hk:k=o.length) :
 Rn (fun m=>evN PP EP CP (qy0 (XT m)) (rn PP EP CP m) none (lpT es n (hS es ms v1 n1 v2 n2 k v3 n3 (x::y,some (o,[])))) some) (QS ((base 28 29).on [(0,.func (.yield 6) [] []),(2,.ptr 4 0 0),(6,.osl 4 es),(7,.int .i64 es.length),(8,.int .i64 n)]) (Out es ms (x::y,some (o,[])) (qe0 es ms (d+1) n (x::y,some (o,[]))))):=by
 subst h1 h2 hk
 refine .of (fun m=>zb1 (XT m) _ none some es ms n v1 (x::y).length (x::y) v2 (o.length+1) o.length o) ?_
 have e0:Nat.add (o.length+1) 1=o.length+1+1:=rfl
 have e1:(0+Int.toNat ((↑(o.length+1+1):Int)-1))*1=o.length+1:=by omega
 have e2:(o++[V.osl 1 []]).length=o.length+1:=by simp
 have hN:gE 4 es (Int.toNat (n:Int)*4) 3=nt es n:=rfl
 have hgl:GndR (x::y):=h.g1
 have hlt:n<es.length:=by have:=h.at';omega
 have hl:=E.len
 have ho:o.length+1≤n:=h.out
 simp only [e0,e1,e2,hN]
 refine .decT (by omega) (.nX ⟨by omega,by omega⟩ (.need (E.ldc n hlt) ?_))
 have hgo:GndR (o++[V.osl 1 []]):=(h.g2 o [] rfl).1.app (QU0 [])
 refine .joinC (c:=cnt ms n=true) (fun hc=>?_) (fun j hj=>?_)
 ·have hf:qe0 es ms (d+1) n (x::y,some (o,[]))=qe0 es ms d (n+1) (x::y,some (o++[V.osl 1 []],nt es n)):=by
   show qe0 es ms d (n+1) (qG0 _ (cnt ms n) _)=_
   rw [hc];rfl
  have hq:OkQ es d (n+1) (x::y,some (o++[V.osl 1 []],nt es n)):=h.next E true
  rw [hf]
  have hsz:(nt es n).length≤68719476736:=by have:=hq.sum;simp only [qD0] at this;omega
  have hgN:=E.gnt n hlt
  refine .need ⟨trivial,trivial,trivial,by omega,by omega,by omega⟩ (.nI ⟨by omega,by omega⟩ (.need ⟨by omega,by omega⟩ (.need ⟨trivial,by omega⟩ ?_)))
  refine .cond (fun hn=>?_) (fun hn=>?_)
  ·have hn:=qY0 hn
   rw [hn] at hq ⊢
   refine .need ⟨trivial,by omega,by omega⟩ (.need rfl (.nI ⟨by omega,by omega⟩ ?_))
   (repeat (with_reducible refine Rn.need (show GndR _ by assumption) ?_))
   refine .bndT (IH v1 (x::y).length (v2+1) (o.length+1+1) (o.length+1) 0 0 _ hq rfl (by simp [qA0]) (by simp [qA0]) rfl) (fun a ha=>?_)
   repeat' (with_reducible first | refine Rn.need (Out.gl1 ha (by assumption)) ?_ | refine Rn.need (Out.gl2 ha (by assumption)) ?_ | refine Rn.need (Out.gl3 ha (by assumption) (by assumption)) ?_ | refine Rn.need (Out.g4 ha (by assumption) (by assumption)) ?_ | refine Rn.cond (fun _=>?_) (fun _=>?_) | refine Rn.jo ?_)
   all_goals (first | exact Rn.abs (Out.us ha).1 (by assumption) | exact Rn.abs (Out.us ha).2 (by assumption) | (refine Rn.ret (QS.mk { a with w:=false } ?_ (Out.now ha ?_));rotate_left;(first | (intro _ _ e hl;cases e;done) | (intro _ _ e hl;cases e;exact absurd rfl hl) | (intro _ _ _ _;assumption));show _=rSp _ (Sp.s a) (Sp.t a) (Sp.u a) false _;(first | (rw [‹Sp.s a=true›,‹Sp.t a=true›,‹Sp.u a=true›];rfl) | (rw [‹Sp.s a=true›,‹Sp.t a=true›,‹Sp.u a=false›];rfl) | (rw [‹Sp.s a=true›,‹Sp.t a=false›,‹Sp.u a=true›];rfl) | (rw [‹Sp.s a=true›,‹Sp.t a=false›,‹Sp.u a=false›];rfl) | (rw [‹Sp.s a=false›,‹Sp.t a=true›,‹Sp.u a=true›];rfl) | (rw [‹Sp.s a=false›,‹Sp.t a=true›,‹Sp.u a=false›];rfl) | (rw [‹Sp.s a=false›,‹Sp.t a=false›,‹Sp.u a=true›];rfl) | (rw [‹Sp.s a=false›,‹Sp.t a=false›,‹Sp.u a=false›];rfl))))
  ·obtain ⟨c,l,hcl⟩:∃ c l,nt es n=c::l:=by
    cases hx:nt es n with
    | nil=>rw [hx] at hn;cases hn
    | cons c l=>exact ⟨c,l,rfl⟩
   rw [hcl] at hq hsz hgN ⊢
   refine .need ⟨(fun e=>by cases e),by omega,by omega⟩ (.need ⟨trivial,by omega,by omega⟩ (.need rfl (.nI ⟨by omega,by omega⟩ ?_)))
   (repeat (with_reducible refine Rn.need (show GndR _ by assumption) ?_))
   refine .bndT (IH v1 (x::y).length (v2+1) (o.length+1+1) (o.length+1) 0 (c::l).length _ hq rfl (by simp [qA0]) (by simp [qA0]) rfl) (fun a ha=>?_)
   repeat' (with_reducible first | refine Rn.need (Out.gl1 ha (by assumption)) ?_ | refine Rn.need (Out.gl2 ha (by assumption)) ?_ | refine Rn.need (Out.gl3 ha (by assumption) (by assumption)) ?_ | refine Rn.need (Out.g4 ha (by assumption) (by assumption)) ?_ | refine Rn.cond (fun _=>?_) (fun _=>?_) | refine Rn.jo ?_)
   all_goals (first | exact Rn.abs (Out.us ha).1 (by assumption) | exact Rn.abs (Out.us ha).2 (by assumption) | (refine Rn.ret (QS.mk { a with w:=false } ?_ (Out.now ha ?_));rotate_left;(first | (intro _ _ e hl;cases e;done) | (intro _ _ e hl;cases e;exact absurd rfl hl) | (intro _ _ _ _;assumption));show _=rSp _ (Sp.s a) (Sp.t a) (Sp.u a) false _;(first | (rw [‹Sp.s a=true›,‹Sp.t a=true›,‹Sp.u a=true›];rfl) | (rw [‹Sp.s a=true›,‹Sp.t a=true›,‹Sp.u a=false›];rfl) | (rw [‹Sp.s a=true›,‹Sp.t a=false›,‹Sp.u a=true›];rfl) | (rw [‹Sp.s a=true›,‹Sp.t a=false›,‹Sp.u a=false›];rfl) | (rw [‹Sp.s a=false›,‹Sp.t a=true›,‹Sp.u a=true›];rfl) | (rw [‹Sp.s a=false›,‹Sp.t a=true›,‹Sp.u a=false›];rfl) | (rw [‹Sp.s a=false›,‹Sp.t a=false›,‹Sp.u a=true›];rfl) | (rw [‹Sp.s a=false›,‹Sp.t a=false›,‹Sp.u a=false›];rfl))))
 ·refine .dec (fun hc=>hj ?_) (fun hc=>.nX ⟨by omega,by omega⟩ (.need (E.ldx n (by omega)) (.cond (fun hb=>?_) (fun hb=>hj ?_))))
  ·unfold cnt;rw [decide_eq_true (by omega)];rfl
  ·have hc:cnt ms n=false:=by
    unfold cnt
    rw [decide_eq_false (by omega),show gB 1 ms (n*1) 0=true from hb];rfl
   have hf:qe0 es ms (d+1) n (x::y,some (o,[]))=qe0 es ms d (n+1) (x::y,some (o,nt es n)):=by
    show qe0 es ms d (n+1) (qG0 _ (cnt ms n) _)=_
    rw [hc];rfl
   have hq:OkQ es d (n+1) (x::y,some (o,nt es n)):=h.next E false
   rw [hf]
   have hsz:(nt es n).length≤68719476736:=by have:=hq.sum;simp only [qD0] at this;omega
   have hgN:=E.gnt n hlt
   have hgo:=(h.g2 o [] rfl).1
   refine .need ⟨trivial,by omega⟩ ?_
   refine .cond (fun hn=>?_) (fun hn=>?_)
   ·have hn:=qY0 hn
    rw [hn] at hq ⊢
    refine .need ⟨trivial,by omega,by omega⟩ (.need rfl (.nI ⟨by omega,by omega⟩ ?_))
    (repeat (with_reducible refine Rn.need (show GndR _ by assumption) ?_))
    refine .bndT (IH v1 (x::y).length v2 (o.length+1) o.length 0 0 _ hq rfl rfl rfl rfl) (fun a ha=>?_)
    repeat' (with_reducible first | refine Rn.need (Out.gl1 ha (by assumption)) ?_ | refine Rn.need (Out.gl2 ha (by assumption)) ?_ | refine Rn.need (Out.gl3 ha (by assumption) (by assumption)) ?_ | refine Rn.need (Out.g4 ha (by assumption) (by assumption)) ?_ | refine Rn.cond (fun _=>?_) (fun _=>?_) | refine Rn.jo ?_)
    all_goals (first | exact Rn.abs (Out.us ha).1 (by assumption) | exact Rn.abs (Out.us ha).2 (by assumption) | (refine Rn.ret (QS.mk { a with w:=false } ?_ (Out.now ha ?_));rotate_left;(first | (intro _ _ e hl;cases e;done) | (intro _ _ e hl;cases e;exact absurd rfl hl) | (intro _ _ _ _;assumption));show _=rSp _ (Sp.s a) (Sp.t a) (Sp.u a) false _;(first | (rw [‹Sp.s a=true›,‹Sp.t a=true›,‹Sp.u a=true›];rfl) | (rw [‹Sp.s a=true›,‹Sp.t a=true›,‹Sp.u a=false›];rfl) | (rw [‹Sp.s a=true›,‹Sp.t a=false›,‹Sp.u a=true›];rfl) | (rw [‹Sp.s a=true›,‹Sp.t a=false›,‹Sp.u a=false›];rfl) | (rw [‹Sp.s a=false›,‹Sp.t a=true›,‹Sp.u a=true›];rfl) | (rw [‹Sp.s a=false›,‹Sp.t a=true›,‹Sp.u a=false›];rfl) | (rw [‹Sp.s a=false›,‹Sp.t a=false›,‹Sp.u a=true›];rfl) | (rw [‹Sp.s a=false›,‹Sp.t a=false›,‹Sp.u a=false›];rfl))))
   ·obtain ⟨c,l,hcl⟩:∃ c l,nt es n=c::l:=by
     cases hx:nt es n with
     | nil=>rw [hx] at hn;cases hn
     | cons c l=>exact ⟨c,l,rfl⟩
    rw [hcl] at hq hsz hgN ⊢
    refine .need ⟨(fun e=>by cases e),by omega,by omega⟩ (.need ⟨trivial,by omega,by omega⟩ (.need rfl (.nI ⟨by omega,by omega⟩ ?_)))
    (repeat (with_reducible refine Rn.need (show GndR _ by assumption) ?_))
    refine .bndT (IH v1 (x::y).length v2 (o.length+1) o.length 0 (c::l).length _ hq rfl rfl rfl rfl) (fun a ha=>?_)
    repeat' (with_reducible first | refine Rn.need (Out.gl1 ha (by assumption)) ?_ | refine Rn.need (Out.gl2 ha (by assumption)) ?_ | refine Rn.need (Out.gl3 ha (by assumption) (by assumption)) ?_ | refine Rn.need (Out.g4 ha (by assumption) (by assumption)) ?_ | refine Rn.cond (fun _=>?_) (fun _=>?_) | refine Rn.jo ?_)
    all_goals (first | exact Rn.abs (Out.us ha).1 (by assumption) | exact Rn.abs (Out.us ha).2 (by assumption) | (refine Rn.ret (QS.mk { a with w:=false } ?_ (Out.now ha ?_));rotate_left;(first | (intro _ _ e hl;cases e;done) | (intro _ _ e hl;cases e;exact absurd rfl hl) | (intro _ _ _ _;assumption));show _=rSp _ (Sp.s a) (Sp.t a) (Sp.u a) false _;(first | (rw [‹Sp.s a=true›,‹Sp.t a=true›,‹Sp.u a=true›];rfl) | (rw [‹Sp.s a=true›,‹Sp.t a=true›,‹Sp.u a=false›];rfl) | (rw [‹Sp.s a=true›,‹Sp.t a=false›,‹Sp.u a=true›];rfl) | (rw [‹Sp.s a=true›,‹Sp.t a=false›,‹Sp.u a=false›];rfl) | (rw [‹Sp.s a=false›,‹Sp.t a=true›,‹Sp.u a=true›];rfl) | (rw [‹Sp.s a=false›,‹Sp.t a=true›,‹Sp.u a=false›];rfl) | (rw [‹Sp.s a=false›,‹Sp.t a=false›,‹Sp.u a=true›];rfl) | (rw [‹Sp.s a=false›,‹Sp.t a=false›,‹Sp.u a=false›];rfl))))
  ·unfold cnt;rw [show gB 1 ms (n*1) 0=false from hb];simp
theorem qf0 {l:List V} (h:GndR l) (b:Bool) (k:Nat):GndR (bif b then [] else List.takeN l k):=by
 cases b with
 | true=>exact GndR.nil
 | false=>exact h.take k
theorem Out.set {es ms:List V} {q0 q1 q:Sq} {a:Sp} (h:Out es ms q1 q a) {o:List V} {c:V} {l:List V} (e:q0.2=some (o,c::l)) (v p:Nat) {l4:List V} (hg:GndR l4):Out es ms q0 q { a with w:=true,v4:=v,p4:=p,l4:=l4 } :=
 ⟨h.es,h.ms,h.u,h.l1,h.s,h.o,(fun _ _=>⟨o,c::l,e,fun e=>by cases e⟩),h.g1,h.g2,(fun _ _=>hg),(fun _ _ _ _ _=>rfl)⟩
theorem jp0 {es ms ld o:List V} {q:Sq} {a:Sp} {e:Nat→Option Res} {Q:Res→Prop} (h:Out es ms (ld,some (o,[])) q a) (hs:a.s=true) (hw:a.w=true):Rn e Q:=by
 obtain ⟨o',l',e,hl⟩:=h.w hs hw
 cases e
 exact absurd rfl hl
theorem jo0 {es ms ld o l:List V} {c:V} {q:Sq} {a:Sp} {e:Nat→Option Res} {Q:Res→Prop} (h:Out es ms (ld,some (o,c::l)) q a) (ht:a.t=false) (hw:a.w=false):Rn e Q:=Rn.abs (h.v _ _ rfl (fun e=>by cases e) ht) hw
theorem rD {es ms:List V} (E:En es ms) {d n v1 n1 v2 n2 k v3 n3:Nat} {c0:V} {o l0:List V} (h:OkQ es (d+1) n ([],some (o,c0::l0))) (IH:Nx es ms d (n+1)) (h2:n2=o.length+1) (hk:k=o.length) (h3:n3=(c0::l0).length) :
 Rn (fun m=>evN PP EP CP (qy0 (XT m)) (rn PP EP CP m) none (lpT es n (hS es ms v1 n1 v2 n2 k v3 n3 ([],some (o,c0::l0)))) some) (QS ((base 28 29).on [(0,.func (.yield 6) [] []),(2,.ptr 4 0 0),(6,.osl 4 es),(7,.int .i64 es.length),(8,.int .i64 n)]) (Out es ms ([],some (o,c0::l0)) (qe0 es ms (d+1) n ([],some (o,c0::l0))))):=by
 subst h2 hk h3
 refine .of (fun m=>za1 (XT m) _ none some es ms n v2 (o.length+1) o.length o v3 (c0::l0).length (c0::l0)) ?_
 have e0:Nat.add (o.length+1) 1=o.length+1+1:=rfl
 have e1:(0+Int.toNat ((↑(o.length+1+1):Int)-1))*1=o.length+1:=by omega
 have e2:(o++[V.osl 1 (c0::l0)]).length=o.length+1:=by simp
 have hN:gE 4 es (Int.toNat (n:Int)*4) 3=nt es n:=rfl
 have hgl:GndR (c0::l0):=(h.g2 o (c0::l0) rfl).2
 have hcc:GndR (bif Nat.beq (Nat.max 0 (c0::l0).length) 0 then [] else List.takeN (bif Nat.beq (Nat.max 0 (c0::l0).length) 0 then [] else List.takeN (c0::l0) (Nat.max 0 (c0::l0).length)) (Nat.max 0 (c0::l0).length)):=qf0 (qf0 hgl _ _) _ _
 have hlt:n<es.length:=by have:=h.at';omega
 have hl:=E.len
 have ho:o.length+1≤n:=h.out
 simp only [e0,e1,e2,hN]
 refine .decT (by omega) (.nX ⟨by omega,by omega⟩ (.need (E.ldc n hlt) ?_))
 have hgo:GndR (o++[V.osl 1 (c0::l0)]):=(h.g2 o (c0::l0) rfl).1.app (QU0 (c0::l0))
 refine .joinC (c:=cnt ms n=true) (fun hc=>?_) (fun j hj=>?_)
 ·have hf:qe0 es ms (d+1) n ([],some (o,c0::l0))=qe0 es ms d (n+1) ([],some (o++[V.osl 1 (c0::l0)],nt es n)):=by
   show qe0 es ms d (n+1) (qG0 _ (cnt ms n) _)=_
   rw [hc];rfl
  have hq:OkQ es d (n+1) ([],some (o++[V.osl 1 (c0::l0)],nt es n)):=h.next E true
  rw [hf]
  have hsz:(nt es n).length≤68719476736:=by have:=hq.sum;simp only [qD0,List.length_append] at this;omega
  have hgN:=E.gnt n hlt
  refine .nG rfl hgl (.need ⟨trivial,trivial,trivial,by omega,by omega,by omega⟩ (.nI ⟨by omega,by omega⟩ (.need ⟨by omega,by omega⟩ (.need ⟨trivial,by omega⟩ ?_))))
  refine .cond (fun hn=>?_) (fun hn=>?_)
  ·have hn:=qY0 hn
   rw [hn] at hq ⊢
   refine .need ⟨trivial,by omega,by omega⟩ (.need rfl (.nI ⟨by omega,by omega⟩ ?_))
   (repeat (with_reducible refine Rn.need (show GndR _ by (with_reducible first | assumption | exact qf0 (by assumption) _ _ | exact qf0 (qf0 (by assumption) _ _) _ _)) ?_))
   refine .bndT (IH 0 0 (v2+1) (o.length+1+1) (o.length+1) 0 0 _ hq rfl (by simp [qA0]) (by simp [qA0]) rfl) (fun a ha=>?_)
   repeat' (with_reducible first | refine Rn.need (Out.gl1 ha (by assumption)) ?_ | refine Rn.need (Out.gl2 ha (by assumption)) ?_ | refine Rn.need (Out.gl3 ha (by assumption) (by assumption)) ?_ | refine Rn.need (Out.g4 ha (by assumption) (by assumption)) ?_ | refine Rn.need (show GndR _ by (with_reducible first | assumption | exact qf0 (by assumption) _ _ | exact qf0 (qf0 (by assumption) _ _) _ _)) ?_ | refine Rn.cond (fun _=>?_) (fun _=>?_) | refine Rn.jo ?_)
   all_goals (first | exact jp0 ha (by assumption) (by assumption) | exact jo0 ha (by assumption) (by assumption) | exact Rn.abs (by assumption) (Out.us ha).1 | exact Rn.abs (Out.us ha).1 (by assumption) | exact Rn.abs (Out.us ha).2 (by assumption) | (refine Rn.ret (QS.mk { a with w:=false } ?_ (Out.now ha ?_));rotate_left;(first | (intro _ _ e hl;cases e;done) | (intro _ _ e hl;cases e;exact absurd rfl hl) | (intro _ _ _ _;assumption));show _=rSp _ (Sp.s a) (Sp.t a) (Sp.u a) false _;(first | (rw [‹Sp.s a=true›,‹Sp.t a=true›,‹Sp.u a=true›];rfl) | (rw [‹Sp.s a=true›,‹Sp.t a=true›,‹Sp.u a=false›];rfl) | (rw [‹Sp.s a=true›,‹Sp.t a=false›,‹Sp.u a=true›];rfl) | (rw [‹Sp.s a=true›,‹Sp.t a=false›,‹Sp.u a=false›];rfl) | (rw [‹Sp.s a=false›,‹Sp.t a=true›,‹Sp.u a=true›];rfl) | (rw [‹Sp.s a=false›,‹Sp.t a=true›,‹Sp.u a=false›];rfl) | (rw [‹Sp.s a=false›,‹Sp.t a=false›,‹Sp.u a=true›];rfl) | (rw [‹Sp.s a=false›,‹Sp.t a=false›,‹Sp.u a=false›];rfl))) | (refine Rn.ret (QS.mk { a with w:=true,v4:=_,p4:=_,l4:=_ } (by show _=rSp _ (Sp.s a) (Sp.t a) (Sp.u a) true _;first | (rw [‹Sp.s a=true›,‹Sp.t a=true›,‹Sp.u a=true›];rfl) | (rw [‹Sp.s a=true›,‹Sp.t a=true›,‹Sp.u a=false›];rfl) | (rw [‹Sp.s a=true›,‹Sp.t a=false›,‹Sp.u a=true›];rfl) | (rw [‹Sp.s a=true›,‹Sp.t a=false›,‹Sp.u a=false›];rfl)) (Out.set ha rfl _ _ (by first | exact hcc | exact Out.g4 ha (by assumption) (by assumption) | exact qf0 (Out.g4 ha (by assumption) (by assumption)) _ _)))))
  ·obtain ⟨c,l,hcl⟩:∃ c l,nt es n=c::l:=by
    cases hx:nt es n with
    | nil=>rw [hx] at hn;cases hn
    | cons c l=>exact ⟨c,l,rfl⟩
   rw [hcl] at hq hsz hgN ⊢
   refine .need ⟨(fun e=>by cases e),by omega,by omega⟩ (.need ⟨trivial,by omega,by omega⟩ (.need rfl (.nI ⟨by omega,by omega⟩ ?_)))
   (repeat (with_reducible refine Rn.need (show GndR _ by (with_reducible first | assumption | exact qf0 (by assumption) _ _ | exact qf0 (qf0 (by assumption) _ _) _ _)) ?_))
   refine .bndT (IH 0 0 (v2+1) (o.length+1+1) (o.length+1) 0 (c::l).length _ hq rfl (by simp [qA0]) (by simp [qA0]) rfl) (fun a ha=>?_)
   repeat' (with_reducible first | refine Rn.need (Out.gl1 ha (by assumption)) ?_ | refine Rn.need (Out.gl2 ha (by assumption)) ?_ | refine Rn.need (Out.gl3 ha (by assumption) (by assumption)) ?_ | refine Rn.need (Out.g4 ha (by assumption) (by assumption)) ?_ | refine Rn.need (show GndR _ by (with_reducible first | assumption | exact qf0 (by assumption) _ _ | exact qf0 (qf0 (by assumption) _ _) _ _)) ?_ | refine Rn.cond (fun _=>?_) (fun _=>?_) | refine Rn.jo ?_)
   all_goals (first | exact jp0 ha (by assumption) (by assumption) | exact jo0 ha (by assumption) (by assumption) | exact Rn.abs (by assumption) (Out.us ha).1 | exact Rn.abs (Out.us ha).1 (by assumption) | exact Rn.abs (Out.us ha).2 (by assumption) | (refine Rn.ret (QS.mk { a with w:=false } ?_ (Out.now ha ?_));rotate_left;(first | (intro _ _ e hl;cases e;done) | (intro _ _ e hl;cases e;exact absurd rfl hl) | (intro _ _ _ _;assumption));show _=rSp _ (Sp.s a) (Sp.t a) (Sp.u a) false _;(first | (rw [‹Sp.s a=true›,‹Sp.t a=true›,‹Sp.u a=true›];rfl) | (rw [‹Sp.s a=true›,‹Sp.t a=true›,‹Sp.u a=false›];rfl) | (rw [‹Sp.s a=true›,‹Sp.t a=false›,‹Sp.u a=true›];rfl) | (rw [‹Sp.s a=true›,‹Sp.t a=false›,‹Sp.u a=false›];rfl) | (rw [‹Sp.s a=false›,‹Sp.t a=true›,‹Sp.u a=true›];rfl) | (rw [‹Sp.s a=false›,‹Sp.t a=true›,‹Sp.u a=false›];rfl) | (rw [‹Sp.s a=false›,‹Sp.t a=false›,‹Sp.u a=true›];rfl) | (rw [‹Sp.s a=false›,‹Sp.t a=false›,‹Sp.u a=false›];rfl))) | (refine Rn.ret (QS.mk { a with w:=true,v4:=_,p4:=_,l4:=_ } (by show _=rSp _ (Sp.s a) (Sp.t a) (Sp.u a) true _;first | (rw [‹Sp.s a=true›,‹Sp.t a=true›,‹Sp.u a=true›];rfl) | (rw [‹Sp.s a=true›,‹Sp.t a=true›,‹Sp.u a=false›];rfl) | (rw [‹Sp.s a=true›,‹Sp.t a=false›,‹Sp.u a=true›];rfl) | (rw [‹Sp.s a=true›,‹Sp.t a=false›,‹Sp.u a=false›];rfl)) (Out.set ha rfl _ _ (by first | exact hcc | exact Out.g4 ha (by assumption) (by assumption) | exact qf0 (Out.g4 ha (by assumption) (by assumption)) _ _)))))
 ·refine .dec (fun hc=>hj ?_) (fun hc=>.nX ⟨by omega,by omega⟩ (.need (E.ldx n (by omega)) (.cond (fun hb=>?_) (fun hb=>hj ?_))))
  ·unfold cnt;rw [decide_eq_true (by omega)];rfl
  ·have hc:cnt ms n=false:=by
    unfold cnt
    rw [decide_eq_false (by omega),show gB 1 ms (n*1) 0=true from hb];rfl
   have hf:qe0 es ms (d+1) n ([],some (o,c0::l0))=qe0 es ms d (n+1) ([],some (o,(c0::l0)++nt es n)):=by
    show qe0 es ms d (n+1) (qG0 _ (cnt ms n) _)=_
    rw [hc];rfl
   have hq:OkQ es d (n+1) ([],some (o,(c0::l0)++nt es n)):=h.next E false
   rw [hf]
   have hsz:(nt es n).length≤68719476736:=by have:=hq.sum;simp only [qD0,List.length_append] at this;omega
   have hgN:=E.gnt n hlt
   have hgo:=(h.g2 o (c0::l0) rfl).1
   refine .need ⟨trivial,by omega⟩ ?_
   refine .cond (fun hn=>?_) (fun hn=>?_)
   ·have hn:=qY0 hn
    rw [hn,List.append_nil] at hq
    rw [hn,List.append_nil]
    refine .need ⟨trivial,by omega,by omega⟩ (.need rfl (.nI ⟨by omega,by omega⟩ ?_))
    (repeat (with_reducible refine Rn.need (show GndR _ by (with_reducible first | assumption | exact qf0 (by assumption) _ _ | exact qf0 (qf0 (by assumption) _ _) _ _)) ?_))
    refine .bndT (IH 0 0 v2 (o.length+1) o.length v3 (c0::l0).length _ hq rfl rfl rfl rfl) (fun a ha=>?_)
    repeat' (with_reducible first | refine Rn.need (Out.gl1 ha (by assumption)) ?_ | refine Rn.need (Out.gl2 ha (by assumption)) ?_ | refine Rn.need (Out.gl3 ha (by assumption) (by assumption)) ?_ | refine Rn.need (Out.g4 ha (by assumption) (by assumption)) ?_ | refine Rn.need (show GndR _ by (with_reducible first | assumption | exact qf0 (by assumption) _ _ | exact qf0 (qf0 (by assumption) _ _) _ _)) ?_ | refine Rn.cond (fun _=>?_) (fun _=>?_) | refine Rn.jo ?_)
    all_goals (first | exact jp0 ha (by assumption) (by assumption) | exact jo0 ha (by assumption) (by assumption) | exact Rn.abs (by assumption) (Out.us ha).1 | exact Rn.abs (Out.us ha).1 (by assumption) | exact Rn.abs (Out.us ha).2 (by assumption) | (refine Rn.ret (QS.mk { a with w:=false } ?_ (Out.now ha ?_));rotate_left;(first | (intro _ _ e hl;cases e;done) | (intro _ _ e hl;cases e;exact absurd rfl hl) | (intro _ _ _ _;assumption));show _=rSp _ (Sp.s a) (Sp.t a) (Sp.u a) false _;(first | (rw [‹Sp.s a=true›,‹Sp.t a=true›,‹Sp.u a=true›];rfl) | (rw [‹Sp.s a=true›,‹Sp.t a=true›,‹Sp.u a=false›];rfl) | (rw [‹Sp.s a=true›,‹Sp.t a=false›,‹Sp.u a=true›];rfl) | (rw [‹Sp.s a=true›,‹Sp.t a=false›,‹Sp.u a=false›];rfl) | (rw [‹Sp.s a=false›,‹Sp.t a=true›,‹Sp.u a=true›];rfl) | (rw [‹Sp.s a=false›,‹Sp.t a=true›,‹Sp.u a=false›];rfl) | (rw [‹Sp.s a=false›,‹Sp.t a=false›,‹Sp.u a=true›];rfl) | (rw [‹Sp.s a=false›,‹Sp.t a=false›,‹Sp.u a=false›];rfl))) | (refine Rn.ret (QS.mk { a with w:=true,v4:=_,p4:=_,l4:=_ } (by show _=rSp _ (Sp.s a) (Sp.t a) (Sp.u a) true _;first | (rw [‹Sp.s a=true›,‹Sp.t a=true›,‹Sp.u a=true›];rfl) | (rw [‹Sp.s a=true›,‹Sp.t a=true›,‹Sp.u a=false›];rfl) | (rw [‹Sp.s a=true›,‹Sp.t a=false›,‹Sp.u a=true›];rfl) | (rw [‹Sp.s a=true›,‹Sp.t a=false›,‹Sp.u a=false›];rfl)) (Out.set ha rfl _ _ (by first | exact hcc | exact Out.g4 ha (by assumption) (by assumption) | exact qf0 (Out.g4 ha (by assumption) (by assumption)) _ _)))))
   ·obtain ⟨c,l,hcl⟩:∃ c l,nt es n=c::l:=by
     cases hx:nt es n with
     | nil=>rw [hx] at hn;cases hn
     | cons c l=>exact ⟨c,l,rfl⟩
    rw [hcl] at hq hsz hgN ⊢
    have hga:GndR (c0::l0++c::l):=hgl.app hgN
    have hsa:(c0::l0).length+(c::l).length≤68719476736:=by have:=hq.sum;simp only [qD0,List.length_append] at this;omega
    refine .need ⟨trivial,(fun e=>by cases e),trivial,by omega,by omega,by omega⟩ (.need ⟨trivial,by omega,by omega⟩ (.need rfl (.nI ⟨by omega,by omega⟩ ?_)))
    (repeat (with_reducible refine Rn.need (show GndR _ by (with_reducible first | assumption | exact qf0 (by assumption) _ _ | exact qf0 (qf0 (by assumption) _ _) _ _)) ?_))
    refine .bndT (IH 0 0 v2 (o.length+1) o.length (v3+1) ((c0::l0).length+(c::l).length) _ hq rfl rfl rfl (by simp [qD0];omega)) (fun a ha=>?_)
    repeat' (with_reducible first | refine Rn.need (Out.gl1 ha (by assumption)) ?_ | refine Rn.need (Out.gl2 ha (by assumption)) ?_ | refine Rn.need (Out.gl3 ha (by assumption) (by assumption)) ?_ | refine Rn.need (Out.g4 ha (by assumption) (by assumption)) ?_ | refine Rn.need (show GndR _ by (with_reducible first | assumption | exact qf0 (by assumption) _ _ | exact qf0 (qf0 (by assumption) _ _) _ _)) ?_ | refine Rn.cond (fun _=>?_) (fun _=>?_) | refine Rn.jo ?_)
    all_goals (first | exact jp0 ha (by assumption) (by assumption) | exact jo0 ha (by assumption) (by assumption) | exact Rn.abs (by assumption) (Out.us ha).1 | exact Rn.abs (Out.us ha).1 (by assumption) | exact Rn.abs (Out.us ha).2 (by assumption) | (refine Rn.ret (QS.mk { a with w:=false } ?_ (Out.now ha ?_));rotate_left;(first | (intro _ _ e hl;cases e;done) | (intro _ _ e hl;cases e;exact absurd rfl hl) | (intro _ _ _ _;assumption));show _=rSp _ (Sp.s a) (Sp.t a) (Sp.u a) false _;(first | (rw [‹Sp.s a=true›,‹Sp.t a=true›,‹Sp.u a=true›];rfl) | (rw [‹Sp.s a=true›,‹Sp.t a=true›,‹Sp.u a=false›];rfl) | (rw [‹Sp.s a=true›,‹Sp.t a=false›,‹Sp.u a=true›];rfl) | (rw [‹Sp.s a=true›,‹Sp.t a=false›,‹Sp.u a=false›];rfl) | (rw [‹Sp.s a=false›,‹Sp.t a=true›,‹Sp.u a=true›];rfl) | (rw [‹Sp.s a=false›,‹Sp.t a=true›,‹Sp.u a=false›];rfl) | (rw [‹Sp.s a=false›,‹Sp.t a=false›,‹Sp.u a=true›];rfl) | (rw [‹Sp.s a=false›,‹Sp.t a=false›,‹Sp.u a=false›];rfl))) | (refine Rn.ret (QS.mk { a with w:=true,v4:=_,p4:=_,l4:=_ } (by show _=rSp _ (Sp.s a) (Sp.t a) (Sp.u a) true _;first | (rw [‹Sp.s a=true›,‹Sp.t a=true›,‹Sp.u a=true›];rfl) | (rw [‹Sp.s a=true›,‹Sp.t a=true›,‹Sp.u a=false›];rfl) | (rw [‹Sp.s a=true›,‹Sp.t a=false›,‹Sp.u a=true›];rfl) | (rw [‹Sp.s a=true›,‹Sp.t a=false›,‹Sp.u a=false›];rfl)) (Out.set ha rfl _ _ (by first | exact hcc | exact Out.g4 ha (by assumption) (by assumption) | exact qf0 (Out.g4 ha (by assumption) (by assumption)) _ _)))))
  ·unfold cnt;rw [show gB 1 ms (n*1) 0=false from hb];simp
theorem rF {es ms:List V} (E:En es ms) {d n v1 n1 v2 n2 k v3 n3:Nat} {x c0:V} {y o l0:List V} (h:OkQ es (d+1) n (x::y,some (o,c0::l0))) (IH:Nx es ms d (n+1)) (h1:n1=(x::y).length) (h2:n2=o.length+1) (hk:k=o.length) (h3:n3=(c0::l0).length) :
 Rn (fun m=>evN PP EP CP (qy0 (XT m)) (rn PP EP CP m) none (lpT es n (hS es ms v1 n1 v2 n2 k v3 n3 (x::y,some (o,c0::l0)))) some) (QS ((base 28 29).on [(0,.func (.yield 6) [] []),(2,.ptr 4 0 0),(6,.osl 4 es),(7,.int .i64 es.length),(8,.int .i64 n)]) (Out es ms (x::y,some (o,c0::l0)) (qe0 es ms (d+1) n (x::y,some (o,c0::l0))))):=by
 subst h1 h2 hk h3
 refine .of (fun m=>zc1 (XT m) _ none some es ms n v1 (x::y).length (x::y) v2 (o.length+1) o.length o v3 (c0::l0).length (c0::l0)) ?_
 have e0:Nat.add (o.length+1) 1=o.length+1+1:=rfl
 have e1:(0+Int.toNat ((↑(o.length+1+1):Int)-1))*1=o.length+1:=by omega
 have e2:(o++[V.osl 1 (c0::l0)]).length=o.length+1:=by simp
 have hN:gE 4 es (Int.toNat (n:Int)*4) 3=nt es n:=rfl
 have hgl:GndR (c0::l0):=(h.g2 o (c0::l0) rfl).2
 have hcc:GndR (bif Nat.beq (Nat.max 0 (c0::l0).length) 0 then [] else List.takeN (bif Nat.beq (Nat.max 0 (c0::l0).length) 0 then [] else List.takeN (c0::l0) (Nat.max 0 (c0::l0).length)) (Nat.max 0 (c0::l0).length)):=qf0 (qf0 hgl _ _) _ _
 have hgx:GndR (x::y):=h.g1
 have hlt:n<es.length:=by have:=h.at';omega
 have hl:=E.len
 have ho:o.length+1≤n:=h.out
 simp only [e0,e1,e2,hN]
 refine .decT (by omega) (.nX ⟨by omega,by omega⟩ (.need (E.ldc n hlt) ?_))
 have hgo:GndR (o++[V.osl 1 (c0::l0)]):=(h.g2 o (c0::l0) rfl).1.app (QU0 (c0::l0))
 refine .joinC (c:=cnt ms n=true) (fun hc=>?_) (fun j hj=>?_)
 ·have hf:qe0 es ms (d+1) n (x::y,some (o,c0::l0))=qe0 es ms d (n+1) (x::y,some (o++[V.osl 1 (c0::l0)],nt es n)):=by
   show qe0 es ms d (n+1) (qG0 _ (cnt ms n) _)=_
   rw [hc];rfl
  have hq:OkQ es d (n+1) (x::y,some (o++[V.osl 1 (c0::l0)],nt es n)):=h.next E true
  rw [hf]
  have hsz:(nt es n).length≤68719476736:=by have:=hq.sum;simp only [qD0,List.length_append] at this;omega
  have hgN:=E.gnt n hlt
  refine .nG rfl hgl (.need ⟨trivial,trivial,trivial,by omega,by omega,by omega⟩ (.nI ⟨by omega,by omega⟩ (.need ⟨by omega,by omega⟩ (.need ⟨trivial,by omega⟩ ?_))))
  refine .cond (fun hn=>?_) (fun hn=>?_)
  ·have hn:=qY0 hn
   rw [hn] at hq ⊢
   refine .need ⟨trivial,by omega,by omega⟩ (.need rfl (.nI ⟨by omega,by omega⟩ ?_))
   (repeat (with_reducible refine Rn.need (show GndR _ by (with_reducible first | assumption | exact qf0 (by assumption) _ _ | exact qf0 (qf0 (by assumption) _ _) _ _)) ?_))
   refine .bndT (IH v1 (x::y).length (v2+1) (o.length+1+1) (o.length+1) 0 0 _ hq rfl (by simp [qA0]) (by simp [qA0]) rfl) (fun a ha=>?_)
   repeat' (with_reducible first | refine Rn.need (Out.gl1 ha (by assumption)) ?_ | refine Rn.need (Out.gl2 ha (by assumption)) ?_ | refine Rn.need (Out.gl3 ha (by assumption) (by assumption)) ?_ | refine Rn.need (Out.g4 ha (by assumption) (by assumption)) ?_ | refine Rn.need (show GndR _ by (with_reducible first | assumption | exact qf0 (by assumption) _ _ | exact qf0 (qf0 (by assumption) _ _) _ _)) ?_ | refine Rn.cond (fun _=>?_) (fun _=>?_) | refine Rn.jo ?_)
   all_goals (first | exact jp0 ha (by assumption) (by assumption) | exact jo0 ha (by assumption) (by assumption) | exact Rn.abs (by assumption) (Out.us ha).1 | exact Rn.abs (Out.us ha).1 (by assumption) | exact Rn.abs (Out.us ha).2 (by assumption) | (refine Rn.ret (QS.mk { a with w:=false } ?_ (Out.now ha ?_));rotate_left;(first | (intro _ _ e hl;cases e;done) | (intro _ _ e hl;cases e;exact absurd rfl hl) | (intro _ _ _ _;assumption));show _=rSp _ (Sp.s a) (Sp.t a) (Sp.u a) false _;(first | (rw [‹Sp.s a=true›,‹Sp.t a=true›,‹Sp.u a=true›];rfl) | (rw [‹Sp.s a=true›,‹Sp.t a=true›,‹Sp.u a=false›];rfl) | (rw [‹Sp.s a=true›,‹Sp.t a=false›,‹Sp.u a=true›];rfl) | (rw [‹Sp.s a=true›,‹Sp.t a=false›,‹Sp.u a=false›];rfl) | (rw [‹Sp.s a=false›,‹Sp.t a=true›,‹Sp.u a=true›];rfl) | (rw [‹Sp.s a=false›,‹Sp.t a=true›,‹Sp.u a=false›];rfl) | (rw [‹Sp.s a=false›,‹Sp.t a=false›,‹Sp.u a=true›];rfl) | (rw [‹Sp.s a=false›,‹Sp.t a=false›,‹Sp.u a=false›];rfl))) | (refine Rn.ret (QS.mk { a with w:=true,v4:=_,p4:=_,l4:=_ } (by show _=rSp _ (Sp.s a) (Sp.t a) (Sp.u a) true _;first | (rw [‹Sp.s a=true›,‹Sp.t a=true›,‹Sp.u a=true›];rfl) | (rw [‹Sp.s a=true›,‹Sp.t a=true›,‹Sp.u a=false›];rfl) | (rw [‹Sp.s a=true›,‹Sp.t a=false›,‹Sp.u a=true›];rfl) | (rw [‹Sp.s a=true›,‹Sp.t a=false›,‹Sp.u a=false›];rfl)) (Out.set ha rfl _ _ (by first | exact hcc | exact Out.g4 ha (by assumption) (by assumption) | exact qf0 (Out.g4 ha (by assumption) (by assumption)) _ _)))))
  ·obtain ⟨c,l,hcl⟩:∃ c l,nt es n=c::l:=by
    cases hx:nt es n with
    | nil=>rw [hx] at hn;cases hn
    | cons c l=>exact ⟨c,l,rfl⟩
   rw [hcl] at hq hsz hgN ⊢
   refine .need ⟨(fun e=>by cases e),by omega,by omega⟩ (.need ⟨trivial,by omega,by omega⟩ (.need rfl (.nI ⟨by omega,by omega⟩ ?_)))
   (repeat (with_reducible refine Rn.need (show GndR _ by (with_reducible first | assumption | exact qf0 (by assumption) _ _ | exact qf0 (qf0 (by assumption) _ _) _ _)) ?_))
   refine .bndT (IH v1 (x::y).length (v2+1) (o.length+1+1) (o.length+1) 0 (c::l).length _ hq rfl (by simp [qA0]) (by simp [qA0]) rfl) (fun a ha=>?_)
   repeat' (with_reducible first | refine Rn.need (Out.gl1 ha (by assumption)) ?_ | refine Rn.need (Out.gl2 ha (by assumption)) ?_ | refine Rn.need (Out.gl3 ha (by assumption) (by assumption)) ?_ | refine Rn.need (Out.g4 ha (by assumption) (by assumption)) ?_ | refine Rn.need (show GndR _ by (with_reducible first | assumption | exact qf0 (by assumption) _ _ | exact qf0 (qf0 (by assumption) _ _) _ _)) ?_ | refine Rn.cond (fun _=>?_) (fun _=>?_) | refine Rn.jo ?_)
   all_goals (first | exact jp0 ha (by assumption) (by assumption) | exact jo0 ha (by assumption) (by assumption) | exact Rn.abs (by assumption) (Out.us ha).1 | exact Rn.abs (Out.us ha).1 (by assumption) | exact Rn.abs (Out.us ha).2 (by assumption) | (refine Rn.ret (QS.mk { a with w:=false } ?_ (Out.now ha ?_));rotate_left;(first | (intro _ _ e hl;cases e;done) | (intro _ _ e hl;cases e;exact absurd rfl hl) | (intro _ _ _ _;assumption));show _=rSp _ (Sp.s a) (Sp.t a) (Sp.u a) false _;(first | (rw [‹Sp.s a=true›,‹Sp.t a=true›,‹Sp.u a=true›];rfl) | (rw [‹Sp.s a=true›,‹Sp.t a=true›,‹Sp.u a=false›];rfl) | (rw [‹Sp.s a=true›,‹Sp.t a=false›,‹Sp.u a=true›];rfl) | (rw [‹Sp.s a=true›,‹Sp.t a=false›,‹Sp.u a=false›];rfl) | (rw [‹Sp.s a=false›,‹Sp.t a=true›,‹Sp.u a=true›];rfl) | (rw [‹Sp.s a=false›,‹Sp.t a=true›,‹Sp.u a=false›];rfl) | (rw [‹Sp.s a=false›,‹Sp.t a=false›,‹Sp.u a=true›];rfl) | (rw [‹Sp.s a=false›,‹Sp.t a=false›,‹Sp.u a=false›];rfl))) | (refine Rn.ret (QS.mk { a with w:=true,v4:=_,p4:=_,l4:=_ } (by show _=rSp _ (Sp.s a) (Sp.t a) (Sp.u a) true _;first | (rw [‹Sp.s a=true›,‹Sp.t a=true›,‹Sp.u a=true›];rfl) | (rw [‹Sp.s a=true›,‹Sp.t a=true›,‹Sp.u a=false›];rfl) | (rw [‹Sp.s a=true›,‹Sp.t a=false›,‹Sp.u a=true›];rfl) | (rw [‹Sp.s a=true›,‹Sp.t a=false›,‹Sp.u a=false›];rfl)) (Out.set ha rfl _ _ (by first | exact hcc | exact Out.g4 ha (by assumption) (by assumption) | exact qf0 (Out.g4 ha (by assumption) (by assumption)) _ _)))))
 ·refine .dec (fun hc=>hj ?_) (fun hc=>.nX ⟨by omega,by omega⟩ (.need (E.ldx n (by omega)) (.cond (fun hb=>?_) (fun hb=>hj ?_))))
  ·unfold cnt;rw [decide_eq_true (by omega)];rfl
  ·have hc:cnt ms n=false:=by
    unfold cnt
    rw [decide_eq_false (by omega),show gB 1 ms (n*1) 0=true from hb];rfl
   have hf:qe0 es ms (d+1) n (x::y,some (o,c0::l0))=qe0 es ms d (n+1) (x::y,some (o,(c0::l0)++nt es n)):=by
    show qe0 es ms d (n+1) (qG0 _ (cnt ms n) _)=_
    rw [hc];rfl
   have hq:OkQ es d (n+1) (x::y,some (o,(c0::l0)++nt es n)):=h.next E false
   rw [hf]
   have hsz:(nt es n).length≤68719476736:=by have:=hq.sum;simp only [qD0,List.length_append] at this;omega
   have hgN:=E.gnt n hlt
   have hgo:=(h.g2 o (c0::l0) rfl).1
   refine .need ⟨trivial,by omega⟩ ?_
   refine .cond (fun hn=>?_) (fun hn=>?_)
   ·have hn:=qY0 hn
    rw [hn,List.append_nil] at hq
    rw [hn,List.append_nil]
    refine .need ⟨trivial,by omega,by omega⟩ (.need rfl (.nI ⟨by omega,by omega⟩ ?_))
    (repeat (with_reducible refine Rn.need (show GndR _ by (with_reducible first | assumption | exact qf0 (by assumption) _ _ | exact qf0 (qf0 (by assumption) _ _) _ _)) ?_))
    refine .bndT (IH v1 (x::y).length v2 (o.length+1) o.length v3 (c0::l0).length _ hq rfl rfl rfl rfl) (fun a ha=>?_)
    repeat' (with_reducible first | refine Rn.need (Out.gl1 ha (by assumption)) ?_ | refine Rn.need (Out.gl2 ha (by assumption)) ?_ | refine Rn.need (Out.gl3 ha (by assumption) (by assumption)) ?_ | refine Rn.need (Out.g4 ha (by assumption) (by assumption)) ?_ | refine Rn.need (show GndR _ by (with_reducible first | assumption | exact qf0 (by assumption) _ _ | exact qf0 (qf0 (by assumption) _ _) _ _)) ?_ | refine Rn.cond (fun _=>?_) (fun _=>?_) | refine Rn.jo ?_)
    all_goals (first | exact jp0 ha (by assumption) (by assumption) | exact jo0 ha (by assumption) (by assumption) | exact Rn.abs (by assumption) (Out.us ha).1 | exact Rn.abs (Out.us ha).1 (by assumption) | exact Rn.abs (Out.us ha).2 (by assumption) | (refine Rn.ret (QS.mk { a with w:=false } ?_ (Out.now ha ?_));rotate_left;(first | (intro _ _ e hl;cases e;done) | (intro _ _ e hl;cases e;exact absurd rfl hl) | (intro _ _ _ _;assumption));show _=rSp _ (Sp.s a) (Sp.t a) (Sp.u a) false _;(first | (rw [‹Sp.s a=true›,‹Sp.t a=true›,‹Sp.u a=true›];rfl) | (rw [‹Sp.s a=true›,‹Sp.t a=true›,‹Sp.u a=false›];rfl) | (rw [‹Sp.s a=true›,‹Sp.t a=false›,‹Sp.u a=true›];rfl) | (rw [‹Sp.s a=true›,‹Sp.t a=false›,‹Sp.u a=false›];rfl) | (rw [‹Sp.s a=false›,‹Sp.t a=true›,‹Sp.u a=true›];rfl) | (rw [‹Sp.s a=false›,‹Sp.t a=true›,‹Sp.u a=false›];rfl) | (rw [‹Sp.s a=false›,‹Sp.t a=false›,‹Sp.u a=true›];rfl) | (rw [‹Sp.s a=false›,‹Sp.t a=false›,‹Sp.u a=false›];rfl))) | (refine Rn.ret (QS.mk { a with w:=true,v4:=_,p4:=_,l4:=_ } (by show _=rSp _ (Sp.s a) (Sp.t a) (Sp.u a) true _;first | (rw [‹Sp.s a=true›,‹Sp.t a=true›,‹Sp.u a=true›];rfl) | (rw [‹Sp.s a=true›,‹Sp.t a=true›,‹Sp.u a=false›];rfl) | (rw [‹Sp.s a=true›,‹Sp.t a=false›,‹Sp.u a=true›];rfl) | (rw [‹Sp.s a=true›,‹Sp.t a=false›,‹Sp.u a=false›];rfl)) (Out.set ha rfl _ _ (by first | exact hcc | exact Out.g4 ha (by assumption) (by assumption) | exact qf0 (Out.g4 ha (by assumption) (by assumption)) _ _)))))
   ·obtain ⟨c,l,hcl⟩:∃ c l,nt es n=c::l:=by
     cases hx:nt es n with
     | nil=>rw [hx] at hn;cases hn
     | cons c l=>exact ⟨c,l,rfl⟩
    rw [hcl] at hq hsz hgN ⊢
    have hga:GndR (c0::l0++c::l):=hgl.app hgN
    have hsa:(c0::l0).length+(c::l).length≤68719476736:=by have:=hq.sum;simp only [qD0,List.length_append] at this;omega
    refine .need ⟨trivial,(fun e=>by cases e),trivial,by omega,by omega,by omega⟩ (.need ⟨trivial,by omega,by omega⟩ (.need rfl (.nI ⟨by omega,by omega⟩ ?_)))
    (repeat (with_reducible refine Rn.need (show GndR _ by (with_reducible first | assumption | exact qf0 (by assumption) _ _ | exact qf0 (qf0 (by assumption) _ _) _ _)) ?_))
    refine .bndT (IH v1 (x::y).length v2 (o.length+1) o.length (v3+1) ((c0::l0).length+(c::l).length) _ hq rfl rfl rfl (by simp [qD0];omega)) (fun a ha=>?_)
    repeat' (with_reducible first | refine Rn.need (Out.gl1 ha (by assumption)) ?_ | refine Rn.need (Out.gl2 ha (by assumption)) ?_ | refine Rn.need (Out.gl3 ha (by assumption) (by assumption)) ?_ | refine Rn.need (Out.g4 ha (by assumption) (by assumption)) ?_ | refine Rn.need (show GndR _ by (with_reducible first | assumption | exact qf0 (by assumption) _ _ | exact qf0 (qf0 (by assumption) _ _) _ _)) ?_ | refine Rn.cond (fun _=>?_) (fun _=>?_) | refine Rn.jo ?_)
    all_goals (first | exact jp0 ha (by assumption) (by assumption) | exact jo0 ha (by assumption) (by assumption) | exact Rn.abs (by assumption) (Out.us ha).1 | exact Rn.abs (Out.us ha).1 (by assumption) | exact Rn.abs (Out.us ha).2 (by assumption) | (refine Rn.ret (QS.mk { a with w:=false } ?_ (Out.now ha ?_));rotate_left;(first | (intro _ _ e hl;cases e;done) | (intro _ _ e hl;cases e;exact absurd rfl hl) | (intro _ _ _ _;assumption));show _=rSp _ (Sp.s a) (Sp.t a) (Sp.u a) false _;(first | (rw [‹Sp.s a=true›,‹Sp.t a=true›,‹Sp.u a=true›];rfl) | (rw [‹Sp.s a=true›,‹Sp.t a=true›,‹Sp.u a=false›];rfl) | (rw [‹Sp.s a=true›,‹Sp.t a=false›,‹Sp.u a=true›];rfl) | (rw [‹Sp.s a=true›,‹Sp.t a=false›,‹Sp.u a=false›];rfl) | (rw [‹Sp.s a=false›,‹Sp.t a=true›,‹Sp.u a=true›];rfl) | (rw [‹Sp.s a=false›,‹Sp.t a=true›,‹Sp.u a=false›];rfl) | (rw [‹Sp.s a=false›,‹Sp.t a=false›,‹Sp.u a=true›];rfl) | (rw [‹Sp.s a=false›,‹Sp.t a=false›,‹Sp.u a=false›];rfl))) | (refine Rn.ret (QS.mk { a with w:=true,v4:=_,p4:=_,l4:=_ } (by show _=rSp _ (Sp.s a) (Sp.t a) (Sp.u a) true _;first | (rw [‹Sp.s a=true›,‹Sp.t a=true›,‹Sp.u a=true›];rfl) | (rw [‹Sp.s a=true›,‹Sp.t a=true›,‹Sp.u a=false›];rfl) | (rw [‹Sp.s a=true›,‹Sp.t a=false›,‹Sp.u a=true›];rfl) | (rw [‹Sp.s a=true›,‹Sp.t a=false›,‹Sp.u a=false›];rfl)) (Out.set ha rfl _ _ (by first | exact hcc | exact Out.g4 ha (by assumption) (by assumption) | exact qf0 (Out.g4 ha (by assumption) (by assumption)) _ _)))))
  ·unfold cnt;rw [show gB 1 ms (n*1) 0=false from hb];simp
theorem rA {es ms:List V} (E:En es ms) {d n v1 n1 v2 n2 k v3 n3:Nat} (h:OkQ es (d+1) n ([],none)) (IH:Nx es ms d (n+1)) :
 Rn (fun m=>evN PP EP CP (qy0 (XT m)) (rn PP EP CP m) none (lpT es n (hS es ms v1 n1 v2 n2 k v3 n3 ([],none))) some) (QS ((base 28 29).on [(0,.func (.yield 6) [] []),(2,.ptr 4 0 0),(6,.osl 4 es),(7,.int .i64 es.length),(8,.int .i64 n)]) (Out es ms ([],none) (qe0 es ms (d+1) n ([],none)))):=by
 refine .of (fun m=>qX1 (XT m) _ none some es ms n) ?_
 have hN:gE 4 es (Int.toNat (n:Int)*4) 3=nt es n:=rfl
 have hlt:n<es.length:=by have:=h.at';omega
 have hl:=E.len
 simp only [hN]
 refine .decT (by omega) (.nX ⟨by omega,by omega⟩ (.need (E.ldc n hlt) ?_))
 have hgo:GndR []:=GndR.nil
 refine .joinC (c:=cnt ms n=true) (fun hc=>?_) (fun j hj=>?_)
 ·have hf:qe0 es ms (d+1) n ([],none)=qe0 es ms d (n+1) ([],some ([],nt es n)):=by
   show qe0 es ms d (n+1) (qG0 _ (cnt ms n) _)=_
   rw [hc];rfl
  have hq:OkQ es d (n+1) ([],some ([],nt es n)):=h.next E true
  rw [hf]
  have hsz:(nt es n).length≤68719476736:=by have:=hq.sum;simp only [qD0] at this;omega
  have hgN:=E.gnt n hlt
  (repeat (first | ((with_reducible refine Rn.nI ?_ ?_);(first | assumption | exact rfl | ((repeat' apply And.intro) <;> first | trivial | omega | rfl | (intro e;cases e;done) | simp))) | ((with_reducible refine Rn.need ?_ ?_);(first | assumption | exact rfl | ((repeat' apply And.intro) <;> first | trivial | omega | rfl | (intro e;cases e;done) | simp)))))
  refine .cond (fun hn=>?_) (fun hn=>?_)
  ·have hn:=qY0 hn
   rw [hn] at hq ⊢
   (repeat (first | ((with_reducible refine Rn.nI ?_ ?_);(first | assumption | exact rfl | ((repeat' apply And.intro) <;> first | trivial | omega | rfl | (intro e;cases e;done) | simp))) | ((with_reducible refine Rn.need ?_ ?_);(first | assumption | exact rfl | ((repeat' apply And.intro) <;> first | trivial | omega | rfl | (intro e;cases e;done) | simp)))))
   refine .bndT (IH 0 0 0 1 0 0 0 _ hq rfl rfl rfl rfl) (fun a ha=>?_)
   repeat' (with_reducible first | refine Rn.need (Out.gl1 ha (by assumption)) ?_ | refine Rn.need (Out.gl2 ha (by assumption)) ?_ | refine Rn.need (Out.gl3 ha (by assumption) (by assumption)) ?_ | refine Rn.need (Out.g4 ha (by assumption) (by assumption)) ?_ | refine Rn.cond (fun _=>?_) (fun _=>?_) | refine Rn.jo ?_)
   all_goals (refine Rn.ret (QS.mk { a with w:=false } ?_ (Out.now ha (fun _ _ e _=>nomatch e)));show _=rSp _ (Sp.s a) (Sp.t a) (Sp.u a) false _;(first | (rw [‹Sp.s a=true›,‹Sp.t a=true›,‹Sp.u a=true›];rfl) | (rw [‹Sp.s a=true›,‹Sp.t a=true›,‹Sp.u a=false›];rfl) | (rw [‹Sp.s a=true›,‹Sp.t a=false›,‹Sp.u a=true›];rfl) | (rw [‹Sp.s a=true›,‹Sp.t a=false›,‹Sp.u a=false›];rfl) | (rw [‹Sp.s a=false›,‹Sp.t a=true›,‹Sp.u a=true›];rfl) | (rw [‹Sp.s a=false›,‹Sp.t a=true›,‹Sp.u a=false›];rfl) | (rw [‹Sp.s a=false›,‹Sp.t a=false›,‹Sp.u a=true›];rfl) | (rw [‹Sp.s a=false›,‹Sp.t a=false›,‹Sp.u a=false›];rfl)))
  ·obtain ⟨c,l,hcl⟩:∃ c l,nt es n=c::l:=by
    cases hx:nt es n with
    | nil=>rw [hx] at hn;cases hn
    | cons c l=>exact ⟨c,l,rfl⟩
   rw [hcl] at hq hsz hgN ⊢
   (repeat (first | ((with_reducible refine Rn.nI ?_ ?_);(first | assumption | exact rfl | ((repeat' apply And.intro) <;> first | trivial | omega | rfl | (intro e;cases e;done) | simp))) | ((with_reducible refine Rn.need ?_ ?_);(first | assumption | exact rfl | ((repeat' apply And.intro) <;> first | trivial | omega | rfl | (intro e;cases e;done) | simp)))))
   refine .bndT (IH 0 0 0 1 0 0 (c::l).length _ hq rfl rfl rfl rfl) (fun a ha=>?_)
   repeat' (with_reducible first | refine Rn.need (Out.gl1 ha (by assumption)) ?_ | refine Rn.need (Out.gl2 ha (by assumption)) ?_ | refine Rn.need (Out.gl3 ha (by assumption) (by assumption)) ?_ | refine Rn.need (Out.g4 ha (by assumption) (by assumption)) ?_ | refine Rn.cond (fun _=>?_) (fun _=>?_) | refine Rn.jo ?_)
   all_goals (refine Rn.ret (QS.mk { a with w:=false } ?_ (Out.now ha (fun _ _ e _=>nomatch e)));show _=rSp _ (Sp.s a) (Sp.t a) (Sp.u a) false _;(first | (rw [‹Sp.s a=true›,‹Sp.t a=true›,‹Sp.u a=true›];rfl) | (rw [‹Sp.s a=true›,‹Sp.t a=true›,‹Sp.u a=false›];rfl) | (rw [‹Sp.s a=true›,‹Sp.t a=false›,‹Sp.u a=true›];rfl) | (rw [‹Sp.s a=true›,‹Sp.t a=false›,‹Sp.u a=false›];rfl) | (rw [‹Sp.s a=false›,‹Sp.t a=true›,‹Sp.u a=true›];rfl) | (rw [‹Sp.s a=false›,‹Sp.t a=true›,‹Sp.u a=false›];rfl) | (rw [‹Sp.s a=false›,‹Sp.t a=false›,‹Sp.u a=true›];rfl) | (rw [‹Sp.s a=false›,‹Sp.t a=false›,‹Sp.u a=false›];rfl)))
 ·refine .dec (fun hc=>hj ?_) (fun hc=>.nX ⟨by omega,by omega⟩ (.need (E.ldx n (by omega)) (.cond (fun hb=>?_) (fun hb=>hj ?_))))
  ·unfold cnt;rw [decide_eq_true (by omega)];rfl
  ·have hc:cnt ms n=false:=by
    unfold cnt
    rw [decide_eq_false (by omega),show gB 1 ms (n*1) 0=true from hb];rfl
   have hf:qe0 es ms (d+1) n ([],none)=qe0 es ms d (n+1) (nt es n,none):=by
    show qe0 es ms d (n+1) (qG0 _ (cnt ms n) _)=_
    rw [hc];rfl
   have hq:OkQ es d (n+1) (nt es n,none):=h.next E false
   rw [hf]
   have hsz:(nt es n).length≤68719476736:=by have:=hq.sum;simp only [qD0] at this;omega
   have hgN:=E.gnt n hlt
   (repeat (first | ((with_reducible refine Rn.nI ?_ ?_);(first | assumption | exact rfl | ((repeat' apply And.intro) <;> first | trivial | omega | rfl | (intro e;cases e;done) | simp))) | ((with_reducible refine Rn.need ?_ ?_);(first | assumption | exact rfl | ((repeat' apply And.intro) <;> first | trivial | omega | rfl | (intro e;cases e;done) | simp)))))
   refine .cond (fun hn=>?_) (fun hn=>?_)
   ·have hn:=qY0 hn
    rw [hn] at hq ⊢
    (repeat (first | ((with_reducible refine Rn.nI ?_ ?_);(first | assumption | exact rfl | ((repeat' apply And.intro) <;> first | trivial | omega | rfl | (intro e;cases e;done) | simp))) | ((with_reducible refine Rn.need ?_ ?_);(first | assumption | exact rfl | ((repeat' apply And.intro) <;> first | trivial | omega | rfl | (intro e;cases e;done) | simp)))))
    refine .bndT (IH 0 0 0 0 0 0 0 _ hq rfl rfl rfl rfl) (fun a ha=>?_)
    repeat' (with_reducible first | refine Rn.need (Out.gl1 ha (by assumption)) ?_ | refine Rn.need (Out.gl2 ha (by assumption)) ?_ | refine Rn.need (Out.gl3 ha (by assumption) (by assumption)) ?_ | refine Rn.need (Out.g4 ha (by assumption) (by assumption)) ?_ | refine Rn.cond (fun _=>?_) (fun _=>?_) | refine Rn.jo ?_)
    all_goals (refine Rn.ret (QS.mk { a with w:=false } ?_ (Out.now ha (fun _ _ e _=>nomatch e)));show _=rSp _ (Sp.s a) (Sp.t a) (Sp.u a) false _;(first | (rw [‹Sp.s a=true›,‹Sp.t a=true›,‹Sp.u a=true›];rfl) | (rw [‹Sp.s a=true›,‹Sp.t a=true›,‹Sp.u a=false›];rfl) | (rw [‹Sp.s a=true›,‹Sp.t a=false›,‹Sp.u a=true›];rfl) | (rw [‹Sp.s a=true›,‹Sp.t a=false›,‹Sp.u a=false›];rfl) | (rw [‹Sp.s a=false›,‹Sp.t a=true›,‹Sp.u a=true›];rfl) | (rw [‹Sp.s a=false›,‹Sp.t a=true›,‹Sp.u a=false›];rfl) | (rw [‹Sp.s a=false›,‹Sp.t a=false›,‹Sp.u a=true›];rfl) | (rw [‹Sp.s a=false›,‹Sp.t a=false›,‹Sp.u a=false›];rfl)))
   ·obtain ⟨c,l,hcl⟩:∃ c l,nt es n=c::l:=by
     cases hx:nt es n with
     | nil=>rw [hx] at hn;cases hn
     | cons c l=>exact ⟨c,l,rfl⟩
    rw [hcl] at hq hsz hgN ⊢
    (repeat (first | ((with_reducible refine Rn.nI ?_ ?_);(first | assumption | exact rfl | ((repeat' apply And.intro) <;> first | trivial | omega | rfl | (intro e;cases e;done) | simp))) | ((with_reducible refine Rn.need ?_ ?_);(first | assumption | exact rfl | ((repeat' apply And.intro) <;> first | trivial | omega | rfl | (intro e;cases e;done) | simp)))))
    refine .bndT (IH 0 (c::l).length 0 0 0 0 0 _ hq rfl rfl rfl rfl) (fun a ha=>?_)
    repeat' (with_reducible first | refine Rn.need (Out.gl1 ha (by assumption)) ?_ | refine Rn.need (Out.gl2 ha (by assumption)) ?_ | refine Rn.need (Out.gl3 ha (by assumption) (by assumption)) ?_ | refine Rn.need (Out.g4 ha (by assumption) (by assumption)) ?_ | refine Rn.cond (fun _=>?_) (fun _=>?_) | refine Rn.jo ?_)
    all_goals (refine Rn.ret (QS.mk { a with w:=false } ?_ (Out.now ha (fun _ _ e _=>nomatch e)));show _=rSp _ (Sp.s a) (Sp.t a) (Sp.u a) false _;(first | (rw [‹Sp.s a=true›,‹Sp.t a=true›,‹Sp.u a=true›];rfl) | (rw [‹Sp.s a=true›,‹Sp.t a=true›,‹Sp.u a=false›];rfl) | (rw [‹Sp.s a=true›,‹Sp.t a=false›,‹Sp.u a=true›];rfl) | (rw [‹Sp.s a=true›,‹Sp.t a=false›,‹Sp.u a=false›];rfl) | (rw [‹Sp.s a=false›,‹Sp.t a=true›,‹Sp.u a=true›];rfl) | (rw [‹Sp.s a=false›,‹Sp.t a=true›,‹Sp.u a=false›];rfl) | (rw [‹Sp.s a=false›,‹Sp.t a=false›,‹Sp.u a=true›];rfl) | (rw [‹Sp.s a=false›,‹Sp.t a=false›,‹Sp.u a=false›];rfl)))
  ·unfold cnt;rw [show gB 1 ms (n*1) 0=false from hb];simp
theorem rB {es ms:List V} {x:V} {y:List V} (E:En es ms) {d n v1 n1 v2 n2 k v3 n3:Nat} (h:OkQ es (d+1) n (x::y,none)) (IH:Nx es ms d (n+1)) (h1:n1=(x::y).length) :
 Rn (fun m=>evN PP EP CP (qy0 (XT m)) (rn PP EP CP m) none (lpT es n (hS es ms v1 n1 v2 n2 k v3 n3 (x::y,none))) some) (QS ((base 28 29).on [(0,.func (.yield 6) [] []),(2,.ptr 4 0 0),(6,.osl 4 es),(7,.int .i64 es.length),(8,.int .i64 n)]) (Out es ms (x::y,none) (qe0 es ms (d+1) n (x::y,none)))):=by
 subst h1
 refine .of (fun m=>qY1 (XT m) _ none some es ms n v1 (x::y).length (x::y)) ?_
 have hN:gE 4 es (Int.toNat (n:Int)*4) 3=nt es n:=rfl
 have hlt:n<es.length:=by have:=h.at';omega
 have hl:=E.len
 simp only [hN]
 refine .decT (by omega) (.nX ⟨by omega,by omega⟩ (.need (E.ldc n hlt) ?_))
 have hgo:GndR []:=GndR.nil
 have hgx:GndR (x::y):=h.g1
 refine .joinC (c:=cnt ms n=true) (fun hc=>?_) (fun j hj=>?_)
 ·have hf:qe0 es ms (d+1) n (x::y,none)=qe0 es ms d (n+1) (x::y,some ([],nt es n)):=by
   show qe0 es ms d (n+1) (qG0 _ (cnt ms n) _)=_
   rw [hc];rfl
  have hq:OkQ es d (n+1) (x::y,some ([],nt es n)):=h.next E true
  rw [hf]
  have hsz:(nt es n).length≤68719476736:=by have:=hq.sum;simp only [qD0] at this;omega
  have hgN:=E.gnt n hlt
  (repeat (first | ((with_reducible refine Rn.nI ?_ ?_);(first | assumption | exact rfl | ((repeat' apply And.intro) <;> first | trivial | omega | rfl | (intro e;cases e;done) | simp))) | ((with_reducible refine Rn.need ?_ ?_);(first | assumption | exact rfl | ((repeat' apply And.intro) <;> first | trivial | omega | rfl | (intro e;cases e;done) | simp)))))
  refine .cond (fun hn=>?_) (fun hn=>?_)
  ·have hn:=qY0 hn
   rw [hn] at hq ⊢
   (repeat (first | ((with_reducible refine Rn.nI ?_ ?_);(first | assumption | exact rfl | ((repeat' apply And.intro) <;> first | trivial | omega | rfl | (intro e;cases e;done) | simp))) | ((with_reducible refine Rn.need ?_ ?_);(first | assumption | exact rfl | ((repeat' apply And.intro) <;> first | trivial | omega | rfl | (intro e;cases e;done) | simp)))))
   refine .bndT (IH v1 (x::y).length 0 1 0 0 0 _ hq rfl rfl rfl rfl) (fun a ha=>?_)
   repeat' (with_reducible first | refine Rn.need (Out.gl1 ha (by assumption)) ?_ | refine Rn.need (Out.gl2 ha (by assumption)) ?_ | refine Rn.need (Out.gl3 ha (by assumption) (by assumption)) ?_ | refine Rn.need (Out.g4 ha (by assumption) (by assumption)) ?_ | refine Rn.cond (fun _=>?_) (fun _=>?_) | refine Rn.jo ?_)
   all_goals (refine Rn.ret (QS.mk { a with w:=false } ?_ (Out.now ha (fun _ _ e _=>nomatch e)));show _=rSp _ (Sp.s a) (Sp.t a) (Sp.u a) false _;(first | (rw [‹Sp.s a=true›,‹Sp.t a=true›,‹Sp.u a=true›];rfl) | (rw [‹Sp.s a=true›,‹Sp.t a=true›,‹Sp.u a=false›];rfl) | (rw [‹Sp.s a=true›,‹Sp.t a=false›,‹Sp.u a=true›];rfl) | (rw [‹Sp.s a=true›,‹Sp.t a=false›,‹Sp.u a=false›];rfl) | (rw [‹Sp.s a=false›,‹Sp.t a=true›,‹Sp.u a=true›];rfl) | (rw [‹Sp.s a=false›,‹Sp.t a=true›,‹Sp.u a=false›];rfl) | (rw [‹Sp.s a=false›,‹Sp.t a=false›,‹Sp.u a=true›];rfl) | (rw [‹Sp.s a=false›,‹Sp.t a=false›,‹Sp.u a=false›];rfl)))
  ·obtain ⟨c,l,hcl⟩:∃ c l,nt es n=c::l:=by
    cases hx:nt es n with
    | nil=>rw [hx] at hn;cases hn
    | cons c l=>exact ⟨c,l,rfl⟩
   rw [hcl] at hq hsz hgN ⊢
   (repeat (first | ((with_reducible refine Rn.nI ?_ ?_);(first | assumption | exact rfl | ((repeat' apply And.intro) <;> first | trivial | omega | rfl | (intro e;cases e;done) | simp))) | ((with_reducible refine Rn.need ?_ ?_);(first | assumption | exact rfl | ((repeat' apply And.intro) <;> first | trivial | omega | rfl | (intro e;cases e;done) | simp)))))
   refine .bndT (IH v1 (x::y).length 0 1 0 0 (c::l).length _ hq rfl rfl rfl rfl) (fun a ha=>?_)
   repeat' (with_reducible first | refine Rn.need (Out.gl1 ha (by assumption)) ?_ | refine Rn.need (Out.gl2 ha (by assumption)) ?_ | refine Rn.need (Out.gl3 ha (by assumption) (by assumption)) ?_ | refine Rn.need (Out.g4 ha (by assumption) (by assumption)) ?_ | refine Rn.cond (fun _=>?_) (fun _=>?_) | refine Rn.jo ?_)
   all_goals (refine Rn.ret (QS.mk { a with w:=false } ?_ (Out.now ha (fun _ _ e _=>nomatch e)));show _=rSp _ (Sp.s a) (Sp.t a) (Sp.u a) false _;(first | (rw [‹Sp.s a=true›,‹Sp.t a=true›,‹Sp.u a=true›];rfl) | (rw [‹Sp.s a=true›,‹Sp.t a=true›,‹Sp.u a=false›];rfl) | (rw [‹Sp.s a=true›,‹Sp.t a=false›,‹Sp.u a=true›];rfl) | (rw [‹Sp.s a=true›,‹Sp.t a=false›,‹Sp.u a=false›];rfl) | (rw [‹Sp.s a=false›,‹Sp.t a=true›,‹Sp.u a=true›];rfl) | (rw [‹Sp.s a=false›,‹Sp.t a=true›,‹Sp.u a=false›];rfl) | (rw [‹Sp.s a=false›,‹Sp.t a=false›,‹Sp.u a=true›];rfl) | (rw [‹Sp.s a=false›,‹Sp.t a=false›,‹Sp.u a=false›];rfl)))
 ·refine .dec (fun hc=>hj ?_) (fun hc=>.nX ⟨by omega,by omega⟩ (.need (E.ldx n (by omega)) (.cond (fun hb=>?_) (fun hb=>hj ?_))))
  ·unfold cnt;rw [decide_eq_true (by omega)];rfl
  ·have hc:cnt ms n=false:=by
    unfold cnt
    rw [decide_eq_false (by omega),show gB 1 ms (n*1) 0=true from hb];rfl
   have hf:qe0 es ms (d+1) n (x::y,none)=qe0 es ms d (n+1) (x::y++nt es n,none):=by
    show qe0 es ms d (n+1) (qG0 _ (cnt ms n) _)=_
    rw [hc];rfl
   have hq:OkQ es d (n+1) (x::y++nt es n,none):=h.next E false
   rw [hf]
   have hsz:(nt es n).length≤68719476736:=by have:=hq.sum;simp only [qD0,List.length_append] at this;omega
   have hgN:=E.gnt n hlt
   (repeat (first | ((with_reducible refine Rn.nI ?_ ?_);(first | assumption | exact rfl | ((repeat' apply And.intro) <;> first | trivial | omega | rfl | (intro e;cases e;done) | simp))) | ((with_reducible refine Rn.need ?_ ?_);(first | assumption | exact rfl | ((repeat' apply And.intro) <;> first | trivial | omega | rfl | (intro e;cases e;done) | simp)))))
   refine .cond (fun hn=>?_) (fun hn=>?_)
   ·have hn:=qY0 hn
    rw [hn,List.append_nil] at hq
    rw [hn,List.append_nil]
    (repeat (first | ((with_reducible refine Rn.nI ?_ ?_);(first | assumption | exact rfl | ((repeat' apply And.intro) <;> first | trivial | omega | rfl | (intro e;cases e;done) | simp))) | ((with_reducible refine Rn.need ?_ ?_);(first | assumption | exact rfl | ((repeat' apply And.intro) <;> first | trivial | omega | rfl | (intro e;cases e;done) | simp)))))
    refine .bndT (IH v1 (x::y).length 0 0 0 0 0 _ hq rfl rfl rfl rfl) (fun a ha=>?_)
    repeat' (with_reducible first | refine Rn.need (Out.gl1 ha (by assumption)) ?_ | refine Rn.need (Out.gl2 ha (by assumption)) ?_ | refine Rn.need (Out.gl3 ha (by assumption) (by assumption)) ?_ | refine Rn.need (Out.g4 ha (by assumption) (by assumption)) ?_ | refine Rn.cond (fun _=>?_) (fun _=>?_) | refine Rn.jo ?_)
    all_goals (refine Rn.ret (QS.mk { a with w:=false } ?_ (Out.now ha (fun _ _ e _=>nomatch e)));show _=rSp _ (Sp.s a) (Sp.t a) (Sp.u a) false _;(first | (rw [‹Sp.s a=true›,‹Sp.t a=true›,‹Sp.u a=true›];rfl) | (rw [‹Sp.s a=true›,‹Sp.t a=true›,‹Sp.u a=false›];rfl) | (rw [‹Sp.s a=true›,‹Sp.t a=false›,‹Sp.u a=true›];rfl) | (rw [‹Sp.s a=true›,‹Sp.t a=false›,‹Sp.u a=false›];rfl) | (rw [‹Sp.s a=false›,‹Sp.t a=true›,‹Sp.u a=true›];rfl) | (rw [‹Sp.s a=false›,‹Sp.t a=true›,‹Sp.u a=false›];rfl) | (rw [‹Sp.s a=false›,‹Sp.t a=false›,‹Sp.u a=true›];rfl) | (rw [‹Sp.s a=false›,‹Sp.t a=false›,‹Sp.u a=false›];rfl)))
   ·obtain ⟨c,l,hcl⟩:∃ c l,nt es n=c::l:=by
     cases hx:nt es n with
     | nil=>rw [hx] at hn;cases hn
     | cons c l=>exact ⟨c,l,rfl⟩
    rw [hcl] at hq hsz hgN ⊢
    have hga:GndR (x::y++c::l):=hgx.app hgN
    have hsa:(x::y).length+(c::l).length≤68719476736:=by have:=hq.sum;simp only [qD0,List.length_append] at this;omega
    (repeat (first | ((with_reducible refine Rn.nI ?_ ?_);(first | assumption | exact rfl | ((repeat' apply And.intro) <;> first | trivial | omega | rfl | (intro e;cases e;done) | simp))) | ((with_reducible refine Rn.need ?_ ?_);(first | assumption | exact rfl | ((repeat' apply And.intro) <;> first | trivial | omega | rfl | (intro e;cases e;done) | simp)))))
    refine .bndT (IH (v1+1) ((x::y).length+(c::l).length) 0 0 0 0 0 _ hq (by simp;omega) rfl rfl rfl) (fun a ha=>?_)
    repeat' (with_reducible first | refine Rn.need (Out.gl1 ha (by assumption)) ?_ | refine Rn.need (Out.gl2 ha (by assumption)) ?_ | refine Rn.need (Out.gl3 ha (by assumption) (by assumption)) ?_ | refine Rn.need (Out.g4 ha (by assumption) (by assumption)) ?_ | refine Rn.cond (fun _=>?_) (fun _=>?_) | refine Rn.jo ?_)
    all_goals (refine Rn.ret (QS.mk { a with w:=false } ?_ (Out.now ha (fun _ _ e _=>nomatch e)));show _=rSp _ (Sp.s a) (Sp.t a) (Sp.u a) false _;(first | (rw [‹Sp.s a=true›,‹Sp.t a=true›,‹Sp.u a=true›];rfl) | (rw [‹Sp.s a=true›,‹Sp.t a=true›,‹Sp.u a=false›];rfl) | (rw [‹Sp.s a=true›,‹Sp.t a=false›,‹Sp.u a=true›];rfl) | (rw [‹Sp.s a=true›,‹Sp.t a=false›,‹Sp.u a=false›];rfl) | (rw [‹Sp.s a=false›,‹Sp.t a=true›,‹Sp.u a=true›];rfl) | (rw [‹Sp.s a=false›,‹Sp.t a=true›,‹Sp.u a=false›];rfl) | (rw [‹Sp.s a=false›,‹Sp.t a=false›,‹Sp.u a=true›];rfl) | (rw [‹Sp.s a=false›,‹Sp.t a=false›,‹Sp.u a=false›];rfl)))
  ·unfold cnt;rw [show gB 1 ms (n*1) 0=false from hb];simp
noncomputable abbrev hp0 (es ms:List V):Heap:=hp [.row 0 28 1 0 (some 1) [.nils],.row 0 32 1 0 (some 1) [.nils],.row 0 51 1 0 (some 1) [.ptr 0 0 0],.row 0 29 1 0 (some 1) [.osl 4 es],.row 0 23 1 0 (some 1) [.osl 1 ms],.defs,lpS0 es ms]
theorem r0 {es ms:List V} (E:En es ms) {d n:Nat} (h:OkQ es (d+1) n ([],none)) (IH:Nx es ms d (n+1)) :
 Rn (fun m=>evN PP EP CP (qy0 (XT m)) (rn PP EP CP m) none (lpT es n (hp0 es ms)) some) (QS ((base 28 29).on [(0,.func (.yield 6) [] []),(2,.ptr 4 0 0),(6,.osl 4 es),(7,.int .i64 es.length),(8,.int .i64 n)]) (Out es ms ([],none) (qe0 es ms (d+1) n ([],none)))):=by
 refine .of (fun m=>qW1 (XT m) _ none some es ms n) ?_
 have hN:gE 4 es (Int.toNat (n:Int)*4) 3=nt es n:=rfl
 have hlt:n<es.length:=by have:=h.at';omega
 have hl:=E.len
 simp only [hN]
 refine .decT (by omega) (.nX ⟨by omega,by omega⟩ (.need (E.ldc n hlt) ?_))
 have hgo:GndR []:=GndR.nil
 refine .joinC (c:=cnt ms n=true) (fun hc=>?_) (fun j hj=>?_)
 ·have hf:qe0 es ms (d+1) n ([],none)=qe0 es ms d (n+1) ([],some ([],nt es n)):=by
   show qe0 es ms d (n+1) (qG0 _ (cnt ms n) _)=_
   rw [hc];rfl
  have hq:OkQ es d (n+1) ([],some ([],nt es n)):=h.next E true
  rw [hf]
  have hsz:(nt es n).length≤68719476736:=by have:=hq.sum;simp only [qD0] at this;omega
  have hgN:=E.gnt n hlt
  (repeat (first | ((with_reducible refine Rn.nI ?_ ?_);(first | assumption | exact rfl | ((repeat' apply And.intro) <;> first | trivial | omega | rfl | (intro e;cases e;done) | simp))) | ((with_reducible refine Rn.need ?_ ?_);(first | assumption | exact rfl | ((repeat' apply And.intro) <;> first | trivial | omega | rfl | (intro e;cases e;done) | simp)))))
  refine .cond (fun hn=>?_) (fun hn=>?_)
  ·have hn:=qY0 hn
   rw [hn] at hq ⊢
   (repeat (first | ((with_reducible refine Rn.nI ?_ ?_);(first | assumption | exact rfl | ((repeat' apply And.intro) <;> first | trivial | omega | rfl | (intro e;cases e;done) | simp))) | ((with_reducible refine Rn.need ?_ ?_);(first | assumption | exact rfl | ((repeat' apply And.intro) <;> first | trivial | omega | rfl | (intro e;cases e;done) | simp)))))
   refine .bndT (IH 0 0 0 1 0 0 0 _ hq rfl rfl rfl rfl) (fun a ha=>?_)
   repeat' (with_reducible first | refine Rn.need (Out.gl1 ha (by assumption)) ?_ | refine Rn.need (Out.gl2 ha (by assumption)) ?_ | refine Rn.need (Out.gl3 ha (by assumption) (by assumption)) ?_ | refine Rn.need (Out.g4 ha (by assumption) (by assumption)) ?_ | refine Rn.cond (fun _=>?_) (fun _=>?_) | refine Rn.jo ?_)
   all_goals (refine Rn.ret (QS.mk { a with w:=false } ?_ (Out.now ha (fun _ _ e _=>nomatch e)));show _=rSp _ (Sp.s a) (Sp.t a) (Sp.u a) false _;(first | (rw [‹Sp.s a=true›,‹Sp.t a=true›,‹Sp.u a=true›];rfl) | (rw [‹Sp.s a=true›,‹Sp.t a=true›,‹Sp.u a=false›];rfl) | (rw [‹Sp.s a=true›,‹Sp.t a=false›,‹Sp.u a=true›];rfl) | (rw [‹Sp.s a=true›,‹Sp.t a=false›,‹Sp.u a=false›];rfl) | (rw [‹Sp.s a=false›,‹Sp.t a=true›,‹Sp.u a=true›];rfl) | (rw [‹Sp.s a=false›,‹Sp.t a=true›,‹Sp.u a=false›];rfl) | (rw [‹Sp.s a=false›,‹Sp.t a=false›,‹Sp.u a=true›];rfl) | (rw [‹Sp.s a=false›,‹Sp.t a=false›,‹Sp.u a=false›];rfl)))
  ·obtain ⟨c,l,hcl⟩:∃ c l,nt es n=c::l:=by
    cases hx:nt es n with
    | nil=>rw [hx] at hn;cases hn
    | cons c l=>exact ⟨c,l,rfl⟩
   rw [hcl] at hq hsz hgN ⊢
   (repeat (first | ((with_reducible refine Rn.nI ?_ ?_);(first | assumption | exact rfl | ((repeat' apply And.intro) <;> first | trivial | omega | rfl | (intro e;cases e;done) | simp))) | ((with_reducible refine Rn.need ?_ ?_);(first | assumption | exact rfl | ((repeat' apply And.intro) <;> first | trivial | omega | rfl | (intro e;cases e;done) | simp)))))
   refine .bndT (IH 0 0 0 1 0 0 (c::l).length _ hq rfl rfl rfl rfl) (fun a ha=>?_)
   repeat' (with_reducible first | refine Rn.need (Out.gl1 ha (by assumption)) ?_ | refine Rn.need (Out.gl2 ha (by assumption)) ?_ | refine Rn.need (Out.gl3 ha (by assumption) (by assumption)) ?_ | refine Rn.need (Out.g4 ha (by assumption) (by assumption)) ?_ | refine Rn.cond (fun _=>?_) (fun _=>?_) | refine Rn.jo ?_)
   all_goals (refine Rn.ret (QS.mk { a with w:=false } ?_ (Out.now ha (fun _ _ e _=>nomatch e)));show _=rSp _ (Sp.s a) (Sp.t a) (Sp.u a) false _;(first | (rw [‹Sp.s a=true›,‹Sp.t a=true›,‹Sp.u a=true›];rfl) | (rw [‹Sp.s a=true›,‹Sp.t a=true›,‹Sp.u a=false›];rfl) | (rw [‹Sp.s a=true›,‹Sp.t a=false›,‹Sp.u a=true›];rfl) | (rw [‹Sp.s a=true›,‹Sp.t a=false›,‹Sp.u a=false›];rfl) | (rw [‹Sp.s a=false›,‹Sp.t a=true›,‹Sp.u a=true›];rfl) | (rw [‹Sp.s a=false›,‹Sp.t a=true›,‹Sp.u a=false›];rfl) | (rw [‹Sp.s a=false›,‹Sp.t a=false›,‹Sp.u a=true›];rfl) | (rw [‹Sp.s a=false›,‹Sp.t a=false›,‹Sp.u a=false›];rfl)))
 ·refine .dec (fun hc=>hj ?_) (fun hc=>.nX ⟨by omega,by omega⟩ (.need (E.ldx n (by omega)) (.cond (fun hb=>?_) (fun hb=>hj ?_))))
  ·unfold cnt;rw [decide_eq_true (by omega)];rfl
  ·have hc:cnt ms n=false:=by
    unfold cnt
    rw [decide_eq_false (by omega),show gB 1 ms (n*1) 0=true from hb];rfl
   have hf:qe0 es ms (d+1) n ([],none)=qe0 es ms d (n+1) (nt es n,none):=by
    show qe0 es ms d (n+1) (qG0 _ (cnt ms n) _)=_
    rw [hc];rfl
   have hq:OkQ es d (n+1) (nt es n,none):=h.next E false
   rw [hf]
   have hsz:(nt es n).length≤68719476736:=by have:=hq.sum;simp only [qD0] at this;omega
   have hgN:=E.gnt n hlt
   (repeat (first | ((with_reducible refine Rn.nI ?_ ?_);(first | assumption | exact rfl | ((repeat' apply And.intro) <;> first | trivial | omega | rfl | (intro e;cases e;done) | simp))) | ((with_reducible refine Rn.need ?_ ?_);(first | assumption | exact rfl | ((repeat' apply And.intro) <;> first | trivial | omega | rfl | (intro e;cases e;done) | simp)))))
   refine .cond (fun hn=>?_) (fun hn=>?_)
   ·have hn:=qY0 hn
    rw [hn] at hq ⊢
    (repeat (first | ((with_reducible refine Rn.nI ?_ ?_);(first | assumption | exact rfl | ((repeat' apply And.intro) <;> first | trivial | omega | rfl | (intro e;cases e;done) | simp))) | ((with_reducible refine Rn.need ?_ ?_);(first | assumption | exact rfl | ((repeat' apply And.intro) <;> first | trivial | omega | rfl | (intro e;cases e;done) | simp)))))
    refine .bndT (IH 0 0 0 0 0 0 0 _ hq rfl rfl rfl rfl) (fun a ha=>?_)
    repeat' (with_reducible first | refine Rn.need (Out.gl1 ha (by assumption)) ?_ | refine Rn.need (Out.gl2 ha (by assumption)) ?_ | refine Rn.need (Out.gl3 ha (by assumption) (by assumption)) ?_ | refine Rn.need (Out.g4 ha (by assumption) (by assumption)) ?_ | refine Rn.cond (fun _=>?_) (fun _=>?_) | refine Rn.jo ?_)
    all_goals (refine Rn.ret (QS.mk { a with w:=false } ?_ (Out.now ha (fun _ _ e _=>nomatch e)));show _=rSp _ (Sp.s a) (Sp.t a) (Sp.u a) false _;(first | (rw [‹Sp.s a=true›,‹Sp.t a=true›,‹Sp.u a=true›];rfl) | (rw [‹Sp.s a=true›,‹Sp.t a=true›,‹Sp.u a=false›];rfl) | (rw [‹Sp.s a=true›,‹Sp.t a=false›,‹Sp.u a=true›];rfl) | (rw [‹Sp.s a=true›,‹Sp.t a=false›,‹Sp.u a=false›];rfl) | (rw [‹Sp.s a=false›,‹Sp.t a=true›,‹Sp.u a=true›];rfl) | (rw [‹Sp.s a=false›,‹Sp.t a=true›,‹Sp.u a=false›];rfl) | (rw [‹Sp.s a=false›,‹Sp.t a=false›,‹Sp.u a=true›];rfl) | (rw [‹Sp.s a=false›,‹Sp.t a=false›,‹Sp.u a=false›];rfl)))
   ·obtain ⟨c,l,hcl⟩:∃ c l,nt es n=c::l:=by
     cases hx:nt es n with
     | nil=>rw [hx] at hn;cases hn
     | cons c l=>exact ⟨c,l,rfl⟩
    rw [hcl] at hq hsz hgN ⊢
    (repeat (first | ((with_reducible refine Rn.nI ?_ ?_);(first | assumption | exact rfl | ((repeat' apply And.intro) <;> first | trivial | omega | rfl | (intro e;cases e;done) | simp))) | ((with_reducible refine Rn.need ?_ ?_);(first | assumption | exact rfl | ((repeat' apply And.intro) <;> first | trivial | omega | rfl | (intro e;cases e;done) | simp)))))
    refine .bndT (IH 0 (c::l).length 0 0 0 0 0 _ hq rfl rfl rfl rfl) (fun a ha=>?_)
    repeat' (with_reducible first | refine Rn.need (Out.gl1 ha (by assumption)) ?_ | refine Rn.need (Out.gl2 ha (by assumption)) ?_ | refine Rn.need (Out.gl3 ha (by assumption) (by assumption)) ?_ | refine Rn.need (Out.g4 ha (by assumption) (by assumption)) ?_ | refine Rn.cond (fun _=>?_) (fun _=>?_) | refine Rn.jo ?_)
    all_goals (refine Rn.ret (QS.mk { a with w:=false } ?_ (Out.now ha (fun _ _ e _=>nomatch e)));show _=rSp _ (Sp.s a) (Sp.t a) (Sp.u a) false _;(first | (rw [‹Sp.s a=true›,‹Sp.t a=true›,‹Sp.u a=true›];rfl) | (rw [‹Sp.s a=true›,‹Sp.t a=true›,‹Sp.u a=false›];rfl) | (rw [‹Sp.s a=true›,‹Sp.t a=false›,‹Sp.u a=true›];rfl) | (rw [‹Sp.s a=true›,‹Sp.t a=false›,‹Sp.u a=false›];rfl) | (rw [‹Sp.s a=false›,‹Sp.t a=true›,‹Sp.u a=true›];rfl) | (rw [‹Sp.s a=false›,‹Sp.t a=true›,‹Sp.u a=false›];rfl) | (rw [‹Sp.s a=false›,‹Sp.t a=false›,‹Sp.u a=true›];rfl) | (rw [‹Sp.s a=false›,‹Sp.t a=false›,‹Sp.u a=false›];rfl)))
  ·unfold cnt;rw [show gB 1 ms (n*1) 0=false from hb];simp
theorem rZ {es ms:List V} {n v1 n1 v2 n2 k v3 n3:Nat} {q:Sq} (h:OkQ es 0 n q) (h1:n1=q.1.length) (h2:n2=qA0 q) (hk:k=qA0 q-1) (h3:n3=qD0 q) :
 Rn (fun m=>evN PP EP CP (qy0 (XT m)) (rn PP EP CP m) none (lpT es n (hS es ms v1 n1 v2 n2 k v3 n3 q)) some) (QS ((base 28 29).on [(0,.func (.yield 6) [] []),(2,.ptr 4 0 0),(6,.osl 4 es),(7,.int .i64 es.length),(8,.int .i64 n)]) (Out es ms q q)):=by
 have hn:¬ ((n:Int)<(es.length:Int)):=by have:=h.at';omega
 obtain ⟨ld,x⟩:=q
 have g1:GndR ld:=h.g1
 cases x with
 | none =>
  cases ld with
  | nil =>
   refine .of (fun m=>qX1 (XT m) _ none some es ms n) (.decF hn (.ret (QS.mk ⟨false,0,0,[],false,0,0,[],0,false,0,0,[],false,0,0,[],es,ms⟩ rfl ?_)))
   exact ⟨rfl,rfl,rfl,(fun e=>by cases e),rfl,(fun _ _ e=>by cases e),(fun e=>by cases e),g1,(fun _ _ e=>by cases e),(fun e=>by cases e),(fun _ _ e=>by cases e)⟩
  | cons a b =>
   refine .of (fun m=>qY1 (XT m) _ none some es ms n v1 n1 (a::b)) (.decF hn (.need g1 (.need g1 (.ret (QS.mk ⟨true,v1,n1,a::b,false,0,0,[],0,false,0,0,[],false,0,0,[],es,ms⟩ rfl ?_)))))
   exact ⟨rfl,rfl,rfl,(fun _=>⟨rfl,h1⟩),rfl,(fun _ _ e=>by cases e),(fun e=>by cases e),g1,(fun _ _ e=>by cases e),(fun e=>by cases e),(fun _ _ e=>by cases e)⟩
 | some p =>
  obtain ⟨o,l⟩:=p
  obtain ⟨g2,g3⟩:=h.g2 o l rfl
  cases l with
  | nil =>
   cases ld with
   | nil =>
    refine .of (fun m=>qZ1 (XT m) _ none some es ms n v2 n2 k o) (.decF hn (.need g2 (.need g2 (.ret (QS.mk ⟨false,0,0,[],true,v2,n2,o,k,false,0,0,[],false,0,0,[],es,ms⟩ rfl ?_)))))
    exact ⟨rfl,rfl,rfl,(fun e=>by cases e),rfl,(fun _ _ e=>by cases e;exact ⟨rfl,h2,hk,rfl,fun e=>by cases e⟩),(fun _ e=>by cases e),g1,(fun _ _ e=>by cases e;exact ⟨g2,g3⟩),(fun _ e=>by cases e),(fun _ _ e hl=>by cases e;exact absurd rfl hl)⟩
   | cons a b =>
    refine .of (fun m=>zb1 (XT m) _ none some es ms n v1 n1 (a::b) v2 n2 k o) (.decF hn (.need g1 (.need g2 (.need g1 (.need g2 (.ret (QS.mk ⟨true,v1,n1,a::b,true,v2,n2,o,k,false,0,0,[],false,0,0,[],es,ms⟩ rfl ?_)))))))
    exact ⟨rfl,rfl,rfl,(fun _=>⟨rfl,h1⟩),rfl,(fun _ _ e=>by cases e;exact ⟨rfl,h2,hk,rfl,fun e=>by cases e⟩),(fun _ e=>by cases e),g1,(fun _ _ e=>by cases e;exact ⟨g2,g3⟩),(fun _ e=>by cases e),(fun _ _ e hl=>by cases e;exact absurd rfl hl)⟩
  | cons c l =>
   cases ld with
   | nil =>
    refine .of (fun m=>za1 (XT m) _ none some es ms n v2 n2 k o v3 n3 (c::l)) (.decF hn (.need g2 (.need g3 (.need g2 (.need g3 (.ret (QS.mk ⟨false,0,0,[],true,v2,n2,o,k,true,v3,n3,c::l,false,0,0,[],es,ms⟩ rfl ?_)))))))
    exact ⟨rfl,rfl,rfl,(fun e=>by cases e),rfl,(fun _ _ e=>by cases e;exact ⟨rfl,h2,hk,rfl,fun _=>⟨rfl,h3⟩⟩),(fun _ e=>by cases e),g1,(fun _ _ e=>by cases e;exact ⟨g2,g3⟩),(fun _ e=>by cases e),(fun _ _ _ _ e=>by cases e)⟩
   | cons a b =>
    refine .of (fun m=>zc1 (XT m) _ none some es ms n v1 n1 (a::b) v2 n2 k o v3 n3 (c::l)) (.decF hn (.need g1 (.need g2 (.need g3 (.need g1 (.need g2 (.need g3 (.ret (QS.mk ⟨true,v1,n1,a::b,true,v2,n2,o,k,true,v3,n3,c::l,false,0,0,[],es,ms⟩ rfl ?_)))))))))
    exact ⟨rfl,rfl,rfl,(fun _=>⟨rfl,h1⟩),rfl,(fun _ _ e=>by cases e;exact ⟨rfl,h2,hk,rfl,fun _=>⟨rfl,h3⟩⟩),(fun _ e=>by cases e),g1,(fun _ _ e=>by cases e;exact ⟨g2,g3⟩),(fun _ e=>by cases e),(fun _ _ _ _ e=>by cases e)⟩
theorem rZ0 {ms:List V}:Rn (fun m=>evN PP EP CP (qy0 (XT m)) (rn PP EP CP m) none (lpT [] 0 (hp0 [] ms)) some) (QS ((base 28 29).on [(0,.func (.yield 6) [] []),(2,.ptr 4 0 0),(6,.osl 4 []),(7,.int .i64 ([]:List V).length),(8,.int .i64 0)]) (Out [] ms ([],none) ([],none))):=by
 refine .of (fun m=>qW1 (XT m) _ none some [] ms 0) (.decF (by decide) (.ret (QS.mk ⟨false,0,0,[],false,0,0,[],0,false,0,0,[],false,0,0,[],[],ms⟩ rfl ?_)))
 exact ⟨rfl,rfl,rfl,(fun e=>by cases e),rfl,(fun _ _ e=>by cases e),(fun e=>by cases e),GndR.nil,(fun _ _ e=>by cases e),(fun e=>by cases e),(fun _ _ e=>by cases e)⟩
/-- A result of Spread's loop is read: what can be seen of it. -/
noncomputable def cl0 (h:Heap) (i:Nat):V:=match h.get i with
 | .row _ _ _ _ _ es=>es.headD undef
 | _=>undef
noncomputable def rowE (h:Heap) (i:Nat):List V:=match h.get i with
 | .row _ _ _ _ _ es=>es
 | .rowS _ _ _ _ l _=>l
 | _=>[]
noncomputable def rowX (h:Heap) (i:Nat):V:=match h.get i with
 | .rowS _ _ _ _ _ x=>x
 | _=>undef
def slN:V→Nat
 | .sl _ _ _ n _=>n
 | _=>0
def slR:V→Nat
 | .sl r _ _ _ _=>r
 | _=>0
def ptO:V→Nat
 | .ptr _ _ o=>o
 | _=>0
noncomputable def rdS:Res→Sp
 | .code _ _ h=>⟨zF0 (cl0 h 0),0,slN (cl0 h 0),rowE h (slR (cl0 h 0)),zF0 (cl0 h 1),0,slN (cl0 h 1),rowE h (slR (cl0 h 1)),ptO (cl0 h 2),zF0 (rowX h (slR (cl0 h 1))),0,slN (rowX h (slR (cl0 h 1))),rowE h (slR (rowX h (slR (cl0 h 1)))),zF0 (cl0 h 1)&&Nat.blt (slR (cl0 h 1)+1+(zF0 (rowX h (slR (cl0 h 1)))).toNat) h.n,0,0,bif zF0 (cl0 h 1)&&Nat.blt (slR (cl0 h 1)+1+(zF0 (rowX h (slR (cl0 h 1)))).toNat) h.n then rowE h (slR (cl0 h 1)+1) else [],zM0 (cl0 h 3),zM0 (cl0 h 4)⟩
 | _=>⟨false,0,0,[],false,0,0,[],0,false,0,0,[],false,0,0,[],[],[]⟩
theorem rdS_R (fr:Fr) (a:Sp):∃ b,rdS (rSp fr a.s a.t a.u a.w a)=b∧b.u=a.u∧(a.u=true→b.n1=a.n1∧b.l1=a.l1)∧b.s=a.s∧(a.s=true→b.n2=a.n2∧b.l2=a.l2∧b.o=a.o∧b.t=a.t∧b.w=a.w∧(a.t=true→b.n3=a.n3∧b.l3=a.l3)∧(a.w=true→b.l4=a.l4))∧b.es=a.es∧b.ms=a.ms:=by
 obtain ⟨u,v1,n1,l1,s,v2,n2,l2,o,t,v3,n3,l3,w,v4,p4,l4,es,ms⟩:=a
 refine ⟨_,rfl,?_⟩
 cases s <;> cases t <;> cases u <;> cases w <;> (refine ⟨rfl,?_,rfl,?_,rfl,rfl⟩ <;> first | (intro e;cases e;done) | (intro _;first | exact ⟨rfl,rfl⟩ | refine ⟨rfl,rfl,rfl,rfl,?_,?_,?_⟩ <;> first | (intro e;cases e;done) | kernel_rfl | (intro _;first | exact ⟨rfl,rfl⟩ | kernel_rfl)))
theorem Out.look {es ms:List V} {q0 q:Sq} {a b:Sp} (h:Out es ms q0 q a) (hu:b.u=a.u) (h1:b.u=true→b.n1=a.n1∧b.l1=a.l1) (hs:b.s=a.s) (h2:b.s=true→b.n2=a.n2∧b.l2=a.l2∧b.o=a.o∧b.t=a.t∧b.w=a.w∧(b.t=true→b.n3=a.n3∧b.l3=a.l3)∧(b.w=true→b.l4=a.l4)) (he:b.es=a.es) (hm:b.ms=a.ms) (hq:∀ o l,q0.2=some (o,l)→q.2.isSome=true):Out es ms q0 q b where
 es:=he.trans h.es
 ms:=hm.trans h.ms
 u:=hu.trans h.u
 l1:=fun e=>by
  obtain ⟨p1,p2⟩:=h1 e
  obtain ⟨r1,r2⟩:=h.l1 (hu ▸ e)
  exact ⟨p2.trans r1,p1.trans r2⟩
 s:=hs.trans h.s
 o:=fun o l e=>by
  have hs':b.s=true:=by rw [hs,h.s,e];rfl
  obtain ⟨p1,p2,p3,p4,p5,p6,p7⟩:=h2 hs'
  obtain ⟨r1,r2,r3,r4,r5⟩:=h.o o l e
  exact ⟨p2.trans r1,p1.trans r2,p3.trans r3,p4.trans r4,fun ht=>⟨(p6 ht).2.trans (r5 (p4 ▸ ht)).1,(p6 ht).1.trans (r5 (p4 ▸ ht)).2⟩⟩
 w:=fun e1 e2=>by
  obtain ⟨p1,p2,p3,p4,p5,p6,p7⟩:=h2 e1
  exact h.w (hs ▸ e1) (p5 ▸ e2)
 g1:=h.g1
 g2:=h.g2
 g4:=fun e1 e2=>by
  obtain ⟨p1,p2,p3,p4,p5,p6,p7⟩:=h2 e1
  rw [p7 e2]
  exact h.g4 (hs ▸ e1) (p5 ▸ e2)
 v:=fun o l e hl ht=>by
  have hs':b.s=true:=by rw [hs,h.s];exact hq o l e
  obtain ⟨p1,p2,p3,p4,p5,p6,p7⟩:=h2 hs'
  rw [p5];exact h.v o l e hl (p4 ▸ ht)
theorem OkT.okS {es ms:List V} {n:Int} {h:Heap} {q0 q:Sq} (hq:∀ o l,q0.2=some (o,l)→q.2.isSome=true) (hR:Rn (fun m=>evN PP EP CP (qy0 (XT m)) (rn PP EP CP m) none (lpT es n h) some) (QS ((base 28 29).on [(0,.func (.yield 6) [] []),(2,.ptr 4 0 0),(6,.osl 4 es),(7,.int .i64 es.length),(8,.int .i64 n)]) (Out es ms q0 q))):OkT (fun X=>X.Sp (lpT es n h)) (Out es ms q0 q):=by
 obtain ⟨r,⟨a,rfl,hP⟩,hT⟩:=Tk.byT hR
 obtain ⟨a',h1,h2⟩:=Kh0 (R:=fun a:Sp=>rSp (frO (lpT es n h)) a.s a.t a.u a.w a) (Q:=qN) a
 obtain ⟨b,e1,e2,e3,e4,e5,e6,e7⟩:=rdS_R (frO (lpT es n h)) a
 obtain ⟨b',f1,f2,f3,f4,f5,f6,f7⟩:=rdS_R (frO (lpT es n h)) a'
 have hb:b=b':=by rw [← e1,← f1];exact congrArg rdS h1.symm
 subst hb
 refine ⟨a',?_,hT.mono fun m hm=>by show exR _ _ (rn PP EP CP m (lpT es n h))=_;rw [show rn PP EP CP m (lpT es n h)=_ from hm];exact h2⟩
 have hu:a'.u=a.u:=f2.symm.trans e2
 have hs:a'.s=a.s:=f4.symm.trans e4
 refine hP.look hu (fun e=>?_) hs (fun e=>?_) (f6.symm.trans e6) (f7.symm.trans e7) hq
 ·obtain ⟨p1,p2⟩:=e3 (hu ▸ e)
  obtain ⟨r1,r2⟩:=f3 e
  exact ⟨r1.symm.trans p1,r2.symm.trans p2⟩
 ·obtain ⟨p1,p2,p3,p4,p5,p6,p7⟩:=e5 (hs ▸ e)
  obtain ⟨r1,r2,r3,r4,r5,r6,r7⟩:=f5 e
  have ht:a'.t=a.t:=r4.symm.trans p4
  have hw:a'.w=a.w:=r5.symm.trans p5
  exact ⟨r1.symm.trans p1,r2.symm.trans p2,r3.symm.trans p3,ht,hw,fun e'=>⟨(r6 e').1.symm.trans (p6 (ht ▸ e')).1,(r6 e').2.symm.trans (p6 (ht ▸ e')).2⟩,fun e'=>(r7 e').symm.trans (p7 (hw ▸ e'))⟩
theorem zg1 {es ms:List V} {d n:Nat} {q0:Sq}:∀ o l,q0.2=some (o,l)→(qe0 es ms d n q0).2.isSome=true:=by
 intro o l e
 obtain ⟨ld,x⟩:=q0
 change x=some (o,l) at e
 subst e
 obtain ⟨p',h⟩:=zf1 es ms d n ld (o,l)
 rw [h];rfl
theorem nx_all {es ms:List V} (E:En es ms) (d:Nat):∀ n,Nx es ms d n:=by
 induction d with
 | zero=>exact fun n v1 n1 v2 n2 k v3 n3 q h h1 h2 hk h3=>.okS zg1 (rZ h h1 h2 hk h3)
 | succ d IH =>
  intro n v1 n1 v2 n2 k v3 n3 q h h1 h2 hk h3
  refine .okS zg1 ?_
  obtain ⟨ld,x⟩:=q
  cases x with
  | none =>
   cases ld with
   | nil=>exact rA E h (IH (n+1))
   | cons a b=>exact rB E h (IH (n+1)) h1
  | some p =>
   obtain ⟨o,l⟩:=p
   have h2:n2=o.length+1:=h2
   have hk:k=o.length:=hk
   cases l with
   | nil =>
    cases ld with
    | nil=>exact rC E h (IH (n+1)) h2 hk
    | cons a b=>exact rE E h (IH (n+1)) h1 h2 hk
   | cons c l =>
    cases ld with
    | nil=>exact rD E h (IH (n+1)) h2 hk h3
    | cons a b=>exact rF E h (IH (n+1)) h1 h2 hk h3
/-- tidy.Spread. -/
def yQ0 (q:Sq):List V×List V:=(q.1,match q.2 with
 | none=>[]
 | some (o,l)=>o++[V.osl 1 l])
noncomputable def spQ (es ms:List V):List V×List V:=yQ0 (qe0 es ms es.length 0 ([],none))
theorem Out.res {es ms:List V} {q0 q:Sq} {a:Sp} (h:Out es ms q0 q a):(bif a.u then a.l1 else [],bif a.s then a.l2++[V.osl 1 (bif a.t then a.l3 else [])] else [])=yQ0 q:=by
 obtain ⟨ld,x⟩:=q
 have hu:=h.u
 have h1:(bif a.u then a.l1 else [])=ld:=by
  cases ld with
  | nil=>rw [hu];rfl
  | cons c l=>rw [(h.l1 hu).1,hu];rfl
 rw [h1]
 have hs:=h.s
 cases x with
 | none=>rw [hs];rfl
 | some p =>
  obtain ⟨o,l⟩:=p
  obtain ⟨p1,p2,p3,p4,p5⟩:=h.o o l rfl
  rw [hs,p1]
  cases l with
  | nil=>rw [p4];rfl
  | cons c l=>rw [(p5 p4).1,p4];rfl
theorem Out.k1 {es ms:List V} {q0 q:Sq} {a:Sp} (h:Out es ms q0 q a) (hu:a.u=true):a.n1=a.l1.length:=by rw [(h.l1 hu).1];exact (h.l1 hu).2
theorem Out.k2 {es ms:List V} {q0 q:Sq} {a:Sp} (h:Out es ms q0 q a) (hs:a.s=true) (x:V):a.n2=(a.l2++[x]).length:=by
 obtain ⟨ld,p⟩:=q
 cases p with
 | none=>exact nomatch (h.s.symm.trans hs)
 | some p=>obtain ⟨p1,p2,_⟩:=h.o p.1 p.2 rfl;rw [p1,p2,List.length_append];rfl
theorem Out.k3 {es ms:List V} {q0 q:Sq} {a:Sp} (h:Out es ms q0 q a) (hs:a.s=true) (ht:a.t=true):a.n3=a.l3.length:=by
 obtain ⟨ld,p⟩:=q
 cases p with
 | none=>exact nomatch (h.s.symm.trans hs)
 | some p=>obtain ⟨_,_,_,_,p5⟩:=h.o p.1 p.2 rfl;rw [(p5 ht).1];exact (p5 ht).2
theorem spl_ok {es ms:List V} (E:En es ms) (hs:szQ es es.length 0≤68719476736):OkT (fun X=>X.Sp (lpT es 0 (hp0 es ms))) (Out es ms ([],none) (qe0 es ms es.length 0 ([],none))):=by
 cases es with
 | nil=>exact .okS (fun _ _ e=>by cases e) rZ0
 | cons x y =>
  exact .okS (fun _ _ e=>by cases e) (r0 (n:=0) (d:=y.length) E ⟨by simp,by simpa [qD0] using hs,Nat.le_refl _,GndR.nil,fun _ _ e=>by cases e⟩ (nx_all E y.length 1))
def rdSS:Res→List V×List V
 | .ret (.tup [.osl _ a,.osl _ b]) _=>(a,b)
 | _=>([],[])
theorem KO1 {es ms:List V} (E:En es ms) (hs:szQ es es.length 0≤68719476736):OkT (fun X=>X.SS (.call 8 [.osl 4 es,.osl 1 ms] Heap.empty)) (fun a=>a=spQ es ms):=by
 refine OkT.tk (R:=rSS) (Q:=qN) (L:=rdSS) (fun _=>rfl) (fun _=>rfl) (Tk.byT (.of (fun m=>Zv1 (XT m) _ none some es ms) (.bndT (spl_ok E hs) fun a ha=>?_)))
 repeat' (with_reducible first | refine Rn.nG (Out.k3 ha (by assumption) (by assumption)) (Out.gl3 ha (by assumption) (by assumption)) ?_ | refine Rn.nG (Out.k1 ha (by assumption)) (Out.gl1 ha (by assumption)) ?_ | refine Rn.need ⟨rfl,rfl,Out.k2 ha (by assumption) _,GndR.app (Out.gl2 ha (by assumption)) (QU0 _)⟩ ?_ | refine Rn.cond (fun _=>?_) (fun _=>?_) | refine Rn.jo ?_)
 all_goals (refine Rn.ret ⟨(_,_),rfl,?_⟩;refine Eq.trans ?_ (Out.res ha);first | (rw [‹Sp.s a=true›,‹Sp.t a=true›,‹Sp.u a=true›];rfl) | (rw [‹Sp.s a=true›,‹Sp.t a=true›,‹Sp.u a=false›];rfl) | (rw [‹Sp.s a=true›,‹Sp.t a=false›,‹Sp.u a=true›];rfl) | (rw [‹Sp.s a=true›,‹Sp.t a=false›,‹Sp.u a=false›];rfl) | (rw [‹Sp.s a=false›,‹Sp.u a=true›];rfl) | (rw [‹Sp.s a=false›,‹Sp.u a=false›];rfl))
theorem qO1 (X:TdX) (ih:Task→Res) {β:Type} (bot:β) (k:Res→β) (es ms:List V) (n i:Int):evN PP EP CP (qy0 X) ih bot (.code (.loop (lpB PP 4 0)) ((base 4 112).on [(0,.osl 4 es),(1,.osl 1 ms),(5,.int .i64 n),(6,.int .i64 i)]) Heap.empty) k =
 bif decide (i<(↑(List.length es):Int)) then (nX bot (i) (List.length es) (need bot (ldC PP 28 4 (es) (Nat.add (Int.toNat i*4) 3)) (nI bot (1+(↑(List.length (gE 4 es (Nat.add (Int.toNat i*4) 3) 0)):Int)) (nI bot (n+(1+(↑(List.length (gE 4 es (Nat.add (Int.toNat i*4) 3) 0)):Int))) (nI bot (i+1) (PR.bnd bot (X.6 (.code (.loop (lpB PP 4 0)) ((base 4 112).on [(0,(.osl 4 (es))),(1,(.osl 1 (ms))),(5,(.int .i64 (n+(1+(↑(List.length (gE 4 es (Nat.add (Int.toNat i*4) 3) 0)):Int))))),(6,(.int .i64 (i+1)))]) Heap.empty)) (fun a6 =>
 k (.code (.exit 0) ((base 4 112).on [(0,(.osl 4 (a6.2.1))),(1,(.osl 1 (a6.2.2))),(5,(.int .i64 (a6.1)))]) Heap.empty))
 (fun e6=>k (qN e6))))))))
 else (k (.code (.exit 0) ((base 4 112).on [(0,(.osl 4 (es))),(1,(.osl 1 (ms))),(5,(.int .i64 (n)))]) Heap.empty)):=by kernel_rfl
theorem qP1 (X:TdX) (ih:Task→Res) {β:Type} (bot:β) (k:Res→β) (es ms xs:List V) (i:Int):evN PP EP CP (qy0 X) ih bot (.code (.loop (lpB PP 4 1)) ((base 4 112).on [(0,.osl 4 es),(1,.osl 1 ms),(8,.osl 1 xs),(9,.nils),(10,.int .i64 i)]) Heap.empty) k =
 bif decide (i<(↑(List.length xs):Int)) then (nX bot (i) (List.length xs) (need bot (ldC PP 28 1 (xs) (Int.toNat i*1)) (bif qb0 (gE 1 xs (Int.toNat i*1) 0) then (nI bot (i+1) (PR.bnd bot (X.7 (.code (.loop (lpB PP 4 1)) ((base 4 112).on [(0,(.osl 4 (es))),(1,(.osl 1 (ms))),(8,(.osl 1 (xs))),(9,.nils),(10,(.int .i64 (i+1)))]) Heap.empty)) (fun a5 =>
 bif a5.u then (need bot (GndR (a5.l1)) (k (.code (.exit 2) ((base 4 112).on [(0,(.osl 4 (a5.es))),(1,(.osl 1 (a5.ms))),(8,(.osl 1 (a5.xs))),(9,(.sl 0 (a5.v1) 0 (a5.n1) none))]) (hp [.row (a5.v1) 9 1 0 none (a5.l1)]))))
 else (k (.code (.exit 2) ((base 4 112).on [(0,(.osl 4 (a5.es))),(1,(.osl 1 (a5.ms))),(8,(.osl 1 (a5.xs))),(9,.nils)]) Heap.empty)))
 (fun e5=>k (qN e5))))
 else (need bot ((gE 1 xs (Int.toNat i*1) 0≠[])∧(((List.length (gE 1 xs (Int.toNat i*1) 0))≤1099511627776)∧((List.length (gE 1 xs (Int.toNat i*1) 0)*16)≤1099511627776))) (nI bot (i+1) (need bot (GndR (gE 1 xs (Int.toNat i*1) 0)) (PR.bnd bot (X.7 (.code (.loop (lpB PP 4 1)) ((base 4 112).on [(0,(.osl 4 (es))),(1,(.osl 1 (ms))),(8,(.osl 1 (xs))),(9,(.sl 0 0 0 (List.length (gE 1 xs (Int.toNat i*1) 0)) none)),(10,(.int .i64 (i+1)))]) (hp [.row 0 9 1 0 none (gE 1 xs (Int.toNat i*1) 0)]))) (fun a7 =>
 bif a7.u then (need bot (GndR (a7.l1)) (k (.code (.exit 2) ((base 4 112).on [(0,(.osl 4 (a7.es))),(1,(.osl 1 (a7.ms))),(8,(.osl 1 (a7.xs))),(9,(.sl 0 (a7.v1) 0 (a7.n1) none))]) (hp [.row (a7.v1) 9 1 0 none (a7.l1)]))))
 else (k (.code (.exit 2) ((base 4 112).on [(0,(.osl 4 (a7.es))),(1,(.osl 1 (a7.ms))),(8,(.osl 1 (a7.xs))),(9,.nils)]) Heap.empty)))
 (fun e7=>k (qN e7)))))))))
 else (k (.code (.exit 2) ((base 4 112).on [(0,(.osl 4 (es))),(1,(.osl 1 (ms))),(8,(.osl 1 (xs))),(9,.nils)]) Heap.empty)):=by kernel_rfl
theorem qQ1 (X:TdX) (ih:Task→Res) {β:Type} (bot:β) (k:Res→β) (es ms xs:List V) (i:Int) (v1 n1:Nat) (l1:List V):evN PP EP CP (qy0 X) ih bot (.code (.loop (lpB PP 4 1)) ((base 4 112).on [(0,.osl 4 es),(1,.osl 1 ms),(8,.osl 1 xs),(9,.sl 0 v1 0 n1 none),(10,.int .i64 i)]) (hp [rwT v1 l1])) k =
 bif decide (i<(↑(List.length xs):Int)) then (nX bot (i) (List.length xs) (need bot (ldC PP 28 1 (xs) (Int.toNat i*1)) (bif qb0 (gE 1 xs (Int.toNat i*1) 0) then (nI bot (i+1) (need bot (GndR (l1)) (PR.bnd bot (X.7 (.code (.loop (lpB PP 4 1)) ((base 4 112).on [(0,(.osl 4 (es))),(1,(.osl 1 (ms))),(8,(.osl 1 (xs))),(9,(.sl 0 (v1) 0 (n1) none)),(10,(.int .i64 (i+1)))]) (hp [.row (v1) 9 1 0 none (l1)]))) (fun a6 =>
 bif a6.u then (need bot (GndR (a6.l1)) (k (.code (.exit 2) ((base 4 112).on [(0,(.osl 4 (a6.es))),(1,(.osl 1 (a6.ms))),(8,(.osl 1 (a6.xs))),(9,(.sl 0 (a6.v1) 0 (a6.n1) none))]) (hp [.row (a6.v1) 9 1 0 none (a6.l1)]))))
 else (k (.code (.exit 2) ((base 4 112).on [(0,(.osl 4 (a6.es))),(1,(.osl 1 (a6.ms))),(8,(.osl 1 (a6.xs))),(9,.nils)]) Heap.empty)))
 (fun e6=>k (qN e6)))))
 else (need bot (((v1)=(v1))∧((gE 1 xs (Int.toNat i*1) 0≠[])∧(((n1)=(List.length l1))∧((0≤(n1))∧(((n1+List.length (gE 1 xs (Int.toNat i*1) 0))≤1099511627776)∧(((n1+List.length (gE 1 xs (Int.toNat i*1) 0))*16)≤1099511627776)))))) (nI bot (i+1) (need bot (GndR (l1++gE 1 xs (Int.toNat i*1) 0)) (PR.bnd bot (X.7 (.code (.loop (lpB PP 4 1)) ((base 4 112).on [(0,(.osl 4 (es))),(1,(.osl 1 (ms))),(8,(.osl 1 (xs))),(9,(.sl 0 (Nat.succ v1) 0 (n1+List.length (gE 1 xs (Int.toNat i*1) 0)) none)),(10,(.int .i64 (i+1)))]) (hp [.row (Nat.succ v1) 9 1 0 none (l1++gE 1 xs (Int.toNat i*1) 0)]))) (fun a7 =>
 bif a7.u then (need bot (GndR (a7.l1)) (k (.code (.exit 2) ((base 4 112).on [(0,(.osl 4 (a7.es))),(1,(.osl 1 (a7.ms))),(8,(.osl 1 (a7.xs))),(9,(.sl 0 (a7.v1) 0 (a7.n1) none))]) (hp [.row (a7.v1) 9 1 0 none (a7.l1)]))))
 else (k (.code (.exit 2) ((base 4 112).on [(0,(.osl 4 (a7.es))),(1,(.osl 1 (a7.ms))),(8,(.osl 1 (a7.xs))),(9,.nils)]) Heap.empty)))
 (fun e7=>k (qN e7)))))))))
 else (need bot (GndR (l1)) (need bot (GndR (l1)) (k (.code (.exit 2) ((base 4 112).on [(0,(.osl 4 (es))),(1,(.osl 1 (ms))),(8,(.osl 1 (xs))),(9,(.sl 0 (v1) 0 (n1) none))]) (hp [.row (v1) 9 1 0 none (l1)]))))):=by kernel_rfl
theorem qR1 (X:TdX) (ih:Task→Res) {β:Type} (bot:β) (k:Res→β) (es ms xs:List V) (m i:Int):evN PP EP CP (qy0 X) ih bot (.code (.loop (lpB PP 4 2)) ((base 4 112).on [(0,.osl 4 es),(1,.osl 1 ms),(8,.osl 1 xs),(9,.nils),(11,.nils),(12,.int .i64 m),(13,.int .i64 i)]) Heap.empty) k =
 bif decide (i<(↑(List.length es):Int)) then (nX bot (i) (List.length es) (need bot (ldC PP 28 4 (es) (Nat.add (Int.toNat i*4) 3)) (bif qb0 (gE 4 es (Nat.add (Int.toNat i*4) 3) 0) then (jn (nI bot (m+1) (nI bot (i+1) (PR.bnd bot (X.8 (.code (.loop (lpB PP 4 2)) ((base 4 112).on [(0,(.osl 4 (es))),(1,(.osl 1 (ms))),(8,(.osl 1 (xs))),(9,.nils),(11,.nils),(12,(.int .i64 (m+1))),(13,(.int .i64 (i+1)))]) Heap.empty)) (fun a7 =>
 bif a7.s then (need bot (GndR (a7.l2)) (k (.code (.exit 4) ((base 4 112).on [(0,(.osl 4 (a7.es))),(1,(.osl 1 (a7.ms))),(8,(.osl 1 (a7.xs))),(9,.nils),(11,(.sl 0 (a7.v2) 0 (a7.n2) none)),(12,(.int .i64 (a7.m)))]) (hp [.row (a7.v2) 9 1 0 none (a7.l2)]))))
 else (k (.code (.exit 4) ((base 4 112).on [(0,(.osl 4 (a7.es))),(1,(.osl 1 (a7.ms))),(8,(.osl 1 (a7.xs))),(9,.nils),(11,.nils),(12,(.int .i64 (a7.m)))]) Heap.empty)))
 (fun e7=>k (qN e7)))))
 (fun j1:β=>bif decide ((↑(List.length ms):Int)≤i) then (j1)
 else (nX bot (i) (List.length ms) (need bot (ldC PP 4 1 (ms) (Int.toNat i*1)) (bif gB 1 ms (Int.toNat i*1) 0 then (nI bot (i+1) (PR.bnd bot (X.8 (.code (.loop (lpB PP 4 2)) ((base 4 112).on [(0,(.osl 4 (es))),(1,(.osl 1 (ms))),(8,(.osl 1 (xs))),(9,.nils),(11,.nils),(12,(.int .i64 (m))),(13,(.int .i64 (i+1)))]) Heap.empty)) (fun a9 =>
 bif a9.s then (need bot (GndR (a9.l2)) (k (.code (.exit 4) ((base 4 112).on [(0,(.osl 4 (a9.es))),(1,(.osl 1 (a9.ms))),(8,(.osl 1 (a9.xs))),(9,.nils),(11,(.sl 0 (a9.v2) 0 (a9.n2) none)),(12,(.int .i64 (a9.m)))]) (hp [.row (a9.v2) 9 1 0 none (a9.l2)]))))
 else (k (.code (.exit 4) ((base 4 112).on [(0,(.osl 4 (a9.es))),(1,(.osl 1 (a9.ms))),(8,(.osl 1 (a9.xs))),(9,.nils),(11,.nils),(12,(.int .i64 (a9.m)))]) Heap.empty)))
 (fun e9=>k (qN e9))))
 else (j1))))))
 else (need bot ((gE 4 es (Nat.add (Int.toNat i*4) 3) 0≠[])∧(((List.length (gE 4 es (Nat.add (Int.toNat i*4) 3) 0))≤1099511627776)∧((List.length (gE 4 es (Nat.add (Int.toNat i*4) 3) 0)*16)≤1099511627776))) (jn (nI bot (m+1) (nI bot (i+1) (need bot (GndR (gE 4 es (Nat.add (Int.toNat i*4) 3) 0)) (PR.bnd bot (X.8 (.code (.loop (lpB PP 4 2)) ((base 4 112).on [(0,(.osl 4 (es))),(1,(.osl 1 (ms))),(8,(.osl 1 (xs))),(9,.nils),(11,(.sl 0 0 0 (List.length (gE 4 es (Nat.add (Int.toNat i*4) 3) 0)) none)),(12,(.int .i64 (m+1))),(13,(.int .i64 (i+1)))]) (hp [.row 0 9 1 0 none (gE 4 es (Nat.add (Int.toNat i*4) 3) 0)]))) (fun a9 =>
 bif a9.s then (need bot (GndR (a9.l2)) (k (.code (.exit 4) ((base 4 112).on [(0,(.osl 4 (a9.es))),(1,(.osl 1 (a9.ms))),(8,(.osl 1 (a9.xs))),(9,.nils),(11,(.sl 0 (a9.v2) 0 (a9.n2) none)),(12,(.int .i64 (a9.m)))]) (hp [.row (a9.v2) 9 1 0 none (a9.l2)]))))
 else (k (.code (.exit 4) ((base 4 112).on [(0,(.osl 4 (a9.es))),(1,(.osl 1 (a9.ms))),(8,(.osl 1 (a9.xs))),(9,.nils),(11,.nils),(12,(.int .i64 (a9.m)))]) Heap.empty)))
 (fun e9=>k (qN e9))))))
 (fun j2:β=>bif decide ((↑(List.length ms):Int)≤i) then (j2)
 else (nX bot (i) (List.length ms) (need bot (ldC PP 4 1 (ms) (Int.toNat i*1)) (bif gB 1 ms (Int.toNat i*1) 0 then (nI bot (i+1) (need bot (GndR (gE 4 es (Nat.add (Int.toNat i*4) 3) 0)) (PR.bnd bot (X.8 (.code (.loop (lpB PP 4 2)) ((base 4 112).on [(0,(.osl 4 (es))),(1,(.osl 1 (ms))),(8,(.osl 1 (xs))),(9,.nils),(11,(.sl 0 0 0 (List.length (gE 4 es (Nat.add (Int.toNat i*4) 3) 0)) none)),(12,(.int .i64 (m))),(13,(.int .i64 (i+1)))]) (hp [.row 0 9 1 0 none (gE 4 es (Nat.add (Int.toNat i*4) 3) 0)]))) (fun a11 =>
 bif a11.s then (need bot (GndR (a11.l2)) (k (.code (.exit 4) ((base 4 112).on [(0,(.osl 4 (a11.es))),(1,(.osl 1 (a11.ms))),(8,(.osl 1 (a11.xs))),(9,.nils),(11,(.sl 0 (a11.v2) 0 (a11.n2) none)),(12,(.int .i64 (a11.m)))]) (hp [.row (a11.v2) 9 1 0 none (a11.l2)]))))
 else (k (.code (.exit 4) ((base 4 112).on [(0,(.osl 4 (a11.es))),(1,(.osl 1 (a11.ms))),(8,(.osl 1 (a11.xs))),(9,.nils),(11,.nils),(12,(.int .i64 (a11.m)))]) Heap.empty)))
 (fun e11=>k (qN e11)))))
 else (j2))))))))))
 else (k (.code (.exit 4) ((base 4 112).on [(0,(.osl 4 (es))),(1,(.osl 1 (ms))),(8,(.osl 1 (xs))),(9,.nils),(11,.nils),(12,(.int .i64 (m)))]) Heap.empty)):=by kernel_rfl
theorem qS1 (X:TdX) (ih:Task→Res) {β:Type} (bot:β) (k:Res→β) (es ms xs:List V) (m i:Int) (v2 n2:Nat) (l2:List V):evN PP EP CP (qy0 X) ih bot (.code (.loop (lpB PP 4 2)) ((base 4 112).on [(0,.osl 4 es),(1,.osl 1 ms),(8,.osl 1 xs),(9,.nils),(11,.sl 0 v2 0 n2 none),(12,.int .i64 m),(13,.int .i64 i)]) (hp [rwT v2 l2])) k =
 bif decide (i<(↑(List.length es):Int)) then (nX bot (i) (List.length es) (need bot (ldC PP 28 4 (es) (Nat.add (Int.toNat i*4) 3)) (bif qb0 (gE 4 es (Nat.add (Int.toNat i*4) 3) 0) then (jn (nI bot (m+1) (nI bot (i+1) (need bot (GndR (l2)) (PR.bnd bot (X.8 (.code (.loop (lpB PP 4 2)) ((base 4 112).on [(0,(.osl 4 (es))),(1,(.osl 1 (ms))),(8,(.osl 1 (xs))),(9,.nils),(11,(.sl 0 (v2) 0 (n2) none)),(12,(.int .i64 (m+1))),(13,(.int .i64 (i+1)))]) (hp [.row (v2) 9 1 0 none (l2)]))) (fun a8 =>
 bif a8.s then (need bot (GndR (a8.l2)) (k (.code (.exit 4) ((base 4 112).on [(0,(.osl 4 (a8.es))),(1,(.osl 1 (a8.ms))),(8,(.osl 1 (a8.xs))),(9,.nils),(11,(.sl 0 (a8.v2) 0 (a8.n2) none)),(12,(.int .i64 (a8.m)))]) (hp [.row (a8.v2) 9 1 0 none (a8.l2)]))))
 else (k (.code (.exit 4) ((base 4 112).on [(0,(.osl 4 (a8.es))),(1,(.osl 1 (a8.ms))),(8,(.osl 1 (a8.xs))),(9,.nils),(11,.nils),(12,(.int .i64 (a8.m)))]) Heap.empty)))
 (fun e8=>k (qN e8))))))
 (fun j1:β=>bif decide ((↑(List.length ms):Int)≤i) then (j1)
 else (nX bot (i) (List.length ms) (need bot (ldC PP 4 1 (ms) (Int.toNat i*1)) (bif gB 1 ms (Int.toNat i*1) 0 then (nI bot (i+1) (need bot (GndR (l2)) (PR.bnd bot (X.8 (.code (.loop (lpB PP 4 2)) ((base 4 112).on [(0,(.osl 4 (es))),(1,(.osl 1 (ms))),(8,(.osl 1 (xs))),(9,.nils),(11,(.sl 0 (v2) 0 (n2) none)),(12,(.int .i64 (m))),(13,(.int .i64 (i+1)))]) (hp [.row (v2) 9 1 0 none (l2)]))) (fun a10 =>
 bif a10.s then (need bot (GndR (a10.l2)) (k (.code (.exit 4) ((base 4 112).on [(0,(.osl 4 (a10.es))),(1,(.osl 1 (a10.ms))),(8,(.osl 1 (a10.xs))),(9,.nils),(11,(.sl 0 (a10.v2) 0 (a10.n2) none)),(12,(.int .i64 (a10.m)))]) (hp [.row (a10.v2) 9 1 0 none (a10.l2)]))))
 else (k (.code (.exit 4) ((base 4 112).on [(0,(.osl 4 (a10.es))),(1,(.osl 1 (a10.ms))),(8,(.osl 1 (a10.xs))),(9,.nils),(11,.nils),(12,(.int .i64 (a10.m)))]) Heap.empty)))
 (fun e10=>k (qN e10)))))
 else (j1))))))
 else (need bot (((v2)=(v2))∧((gE 4 es (Nat.add (Int.toNat i*4) 3) 0≠[])∧(((n2)=(List.length l2))∧((0≤(n2))∧(((n2+List.length (gE 4 es (Nat.add (Int.toNat i*4) 3) 0))≤1099511627776)∧(((n2+List.length (gE 4 es (Nat.add (Int.toNat i*4) 3) 0))*16)≤1099511627776)))))) (jn (nI bot (m+1) (nI bot (i+1) (need bot (GndR (l2++gE 4 es (Nat.add (Int.toNat i*4) 3) 0)) (PR.bnd bot (X.8 (.code (.loop (lpB PP 4 2)) ((base 4 112).on [(0,(.osl 4 (es))),(1,(.osl 1 (ms))),(8,(.osl 1 (xs))),(9,.nils),(11,(.sl 0 (Nat.succ v2) 0 (n2+List.length (gE 4 es (Nat.add (Int.toNat i*4) 3) 0)) none)),(12,(.int .i64 (m+1))),(13,(.int .i64 (i+1)))]) (hp [.row (Nat.succ v2) 9 1 0 none (l2++gE 4 es (Nat.add (Int.toNat i*4) 3) 0)]))) (fun a9 =>
 bif a9.s then (need bot (GndR (a9.l2)) (k (.code (.exit 4) ((base 4 112).on [(0,(.osl 4 (a9.es))),(1,(.osl 1 (a9.ms))),(8,(.osl 1 (a9.xs))),(9,.nils),(11,(.sl 0 (a9.v2) 0 (a9.n2) none)),(12,(.int .i64 (a9.m)))]) (hp [.row (a9.v2) 9 1 0 none (a9.l2)]))))
 else (k (.code (.exit 4) ((base 4 112).on [(0,(.osl 4 (a9.es))),(1,(.osl 1 (a9.ms))),(8,(.osl 1 (a9.xs))),(9,.nils),(11,.nils),(12,(.int .i64 (a9.m)))]) Heap.empty)))
 (fun e9=>k (qN e9))))))
 (fun j2:β=>bif decide ((↑(List.length ms):Int)≤i) then (j2)
 else (nX bot (i) (List.length ms) (need bot (ldC PP 4 1 (ms) (Int.toNat i*1)) (bif gB 1 ms (Int.toNat i*1) 0 then (nI bot (i+1) (need bot (GndR (l2++gE 4 es (Nat.add (Int.toNat i*4) 3) 0)) (PR.bnd bot (X.8 (.code (.loop (lpB PP 4 2)) ((base 4 112).on [(0,(.osl 4 (es))),(1,(.osl 1 (ms))),(8,(.osl 1 (xs))),(9,.nils),(11,(.sl 0 (Nat.succ v2) 0 (n2+List.length (gE 4 es (Nat.add (Int.toNat i*4) 3) 0)) none)),(12,(.int .i64 (m))),(13,(.int .i64 (i+1)))]) (hp [.row (Nat.succ v2) 9 1 0 none (l2++gE 4 es (Nat.add (Int.toNat i*4) 3) 0)]))) (fun a11 =>
 bif a11.s then (need bot (GndR (a11.l2)) (k (.code (.exit 4) ((base 4 112).on [(0,(.osl 4 (a11.es))),(1,(.osl 1 (a11.ms))),(8,(.osl 1 (a11.xs))),(9,.nils),(11,(.sl 0 (a11.v2) 0 (a11.n2) none)),(12,(.int .i64 (a11.m)))]) (hp [.row (a11.v2) 9 1 0 none (a11.l2)]))))
 else (k (.code (.exit 4) ((base 4 112).on [(0,(.osl 4 (a11.es))),(1,(.osl 1 (a11.ms))),(8,(.osl 1 (a11.xs))),(9,.nils),(11,.nils),(12,(.int .i64 (a11.m)))]) Heap.empty)))
 (fun e11=>k (qN e11)))))
 else (j2))))))))))
 else (need bot (GndR (l2)) (need bot (GndR (l2)) (k (.code (.exit 4) ((base 4 112).on [(0,(.osl 4 (es))),(1,(.osl 1 (ms))),(8,(.osl 1 (xs))),(9,.nils),(11,(.sl 0 (v2) 0 (n2) none)),(12,(.int .i64 (m)))]) (hp [.row (v2) 9 1 0 none (l2)]))))):=by kernel_rfl
theorem qT1 (X:TdX) (ih:Task→Res) {β:Type} (bot:β) (k:Res→β) (es ms xs:List V) (m i:Int) (v1 n1:Nat) (l1:List V):evN PP EP CP (qy0 X) ih bot (.code (.loop (lpB PP 4 2)) ((base 4 112).on [(0,.osl 4 es),(1,.osl 1 ms),(8,.osl 1 xs),(9,.sl 0 v1 0 n1 none),(11,.nils),(12,.int .i64 m),(13,.int .i64 i)]) (hp [rwT v1 l1])) k =
 bif decide (i<(↑(List.length es):Int)) then (nX bot (i) (List.length es) (need bot (ldC PP 28 4 (es) (Nat.add (Int.toNat i*4) 3)) (bif qb0 (gE 4 es (Nat.add (Int.toNat i*4) 3) 0) then (jn (nI bot (m+1) (nI bot (i+1) (need bot (GndR (l1)) (PR.bnd bot (X.8 (.code (.loop (lpB PP 4 2)) ((base 4 112).on [(0,(.osl 4 (es))),(1,(.osl 1 (ms))),(8,(.osl 1 (xs))),(9,(.sl 0 (v1) 0 (n1) none)),(11,.nils),(12,(.int .i64 (m+1))),(13,(.int .i64 (i+1)))]) (hp [.row (v1) 9 1 0 none (l1)]))) (fun a8 =>
 bif a8.s then (need bot (GndR (a8.l1)) (need bot (GndR (a8.l2)) (k (.code (.exit 4) ((base 4 112).on [(0,(.osl 4 (a8.es))),(1,(.osl 1 (a8.ms))),(8,(.osl 1 (a8.xs))),(9,(.sl 0 (a8.v1) 0 (a8.n1) none)),(11,(.sl 1 (a8.v2) 0 (a8.n2) none)),(12,(.int .i64 (a8.m)))]) (hp [.row (a8.v1) 9 1 0 none (a8.l1),.row (a8.v2) 9 1 0 none (a8.l2)])))))
 else (need bot (GndR (a8.l1)) (k (.code (.exit 4) ((base 4 112).on [(0,(.osl 4 (a8.es))),(1,(.osl 1 (a8.ms))),(8,(.osl 1 (a8.xs))),(9,(.sl 0 (a8.v1) 0 (a8.n1) none)),(11,.nils),(12,(.int .i64 (a8.m)))]) (hp [.row (a8.v1) 9 1 0 none (a8.l1)])))))
 (fun e8=>k (qN e8))))))
 (fun j1:β=>bif decide ((↑(List.length ms):Int)≤i) then (j1)
 else (nX bot (i) (List.length ms) (need bot (ldC PP 4 1 (ms) (Int.toNat i*1)) (bif gB 1 ms (Int.toNat i*1) 0 then (nI bot (i+1) (need bot (GndR (l1)) (PR.bnd bot (X.8 (.code (.loop (lpB PP 4 2)) ((base 4 112).on [(0,(.osl 4 (es))),(1,(.osl 1 (ms))),(8,(.osl 1 (xs))),(9,(.sl 0 (v1) 0 (n1) none)),(11,.nils),(12,(.int .i64 (m))),(13,(.int .i64 (i+1)))]) (hp [.row (v1) 9 1 0 none (l1)]))) (fun a10 =>
 bif a10.s then (need bot (GndR (a10.l1)) (need bot (GndR (a10.l2)) (k (.code (.exit 4) ((base 4 112).on [(0,(.osl 4 (a10.es))),(1,(.osl 1 (a10.ms))),(8,(.osl 1 (a10.xs))),(9,(.sl 0 (a10.v1) 0 (a10.n1) none)),(11,(.sl 1 (a10.v2) 0 (a10.n2) none)),(12,(.int .i64 (a10.m)))]) (hp [.row (a10.v1) 9 1 0 none (a10.l1),.row (a10.v2) 9 1 0 none (a10.l2)])))))
 else (need bot (GndR (a10.l1)) (k (.code (.exit 4) ((base 4 112).on [(0,(.osl 4 (a10.es))),(1,(.osl 1 (a10.ms))),(8,(.osl 1 (a10.xs))),(9,(.sl 0 (a10.v1) 0 (a10.n1) none)),(11,.nils),(12,(.int .i64 (a10.m)))]) (hp [.row (a10.v1) 9 1 0 none (a10.l1)])))))
 (fun e10=>k (qN e10)))))
 else (j1))))))
 else (need bot ((gE 4 es (Nat.add (Int.toNat i*4) 3) 0≠[])∧(((List.length (gE 4 es (Nat.add (Int.toNat i*4) 3) 0))≤1099511627776)∧((List.length (gE 4 es (Nat.add (Int.toNat i*4) 3) 0)*16)≤1099511627776))) (jn (nI bot (m+1) (nI bot (i+1) (need bot (GndR (l1)) (need bot (GndR (gE 4 es (Nat.add (Int.toNat i*4) 3) 0)) (PR.bnd bot (X.8 (.code (.loop (lpB PP 4 2)) ((base 4 112).on [(0,(.osl 4 (es))),(1,(.osl 1 (ms))),(8,(.osl 1 (xs))),(9,(.sl 0 (v1) 0 (n1) none)),(11,(.sl 1 0 0 (List.length (gE 4 es (Nat.add (Int.toNat i*4) 3) 0)) none)),(12,(.int .i64 (m+1))),(13,(.int .i64 (i+1)))]) (hp [.row (v1) 9 1 0 none (l1),.row 0 9 1 0 none (gE 4 es (Nat.add (Int.toNat i*4) 3) 0)]))) (fun a10 =>
 bif a10.s then (need bot (GndR (a10.l1)) (need bot (GndR (a10.l2)) (k (.code (.exit 4) ((base 4 112).on [(0,(.osl 4 (a10.es))),(1,(.osl 1 (a10.ms))),(8,(.osl 1 (a10.xs))),(9,(.sl 0 (a10.v1) 0 (a10.n1) none)),(11,(.sl 1 (a10.v2) 0 (a10.n2) none)),(12,(.int .i64 (a10.m)))]) (hp [.row (a10.v1) 9 1 0 none (a10.l1),.row (a10.v2) 9 1 0 none (a10.l2)])))))
 else (need bot (GndR (a10.l1)) (k (.code (.exit 4) ((base 4 112).on [(0,(.osl 4 (a10.es))),(1,(.osl 1 (a10.ms))),(8,(.osl 1 (a10.xs))),(9,(.sl 0 (a10.v1) 0 (a10.n1) none)),(11,.nils),(12,(.int .i64 (a10.m)))]) (hp [.row (a10.v1) 9 1 0 none (a10.l1)])))))
 (fun e10=>k (qN e10)))))))
 (fun j2:β=>bif decide ((↑(List.length ms):Int)≤i) then (j2)
 else (nX bot (i) (List.length ms) (need bot (ldC PP 4 1 (ms) (Int.toNat i*1)) (bif gB 1 ms (Int.toNat i*1) 0 then (nI bot (i+1) (need bot (GndR (l1)) (need bot (GndR (gE 4 es (Nat.add (Int.toNat i*4) 3) 0)) (PR.bnd bot (X.8 (.code (.loop (lpB PP 4 2)) ((base 4 112).on [(0,(.osl 4 (es))),(1,(.osl 1 (ms))),(8,(.osl 1 (xs))),(9,(.sl 0 (v1) 0 (n1) none)),(11,(.sl 1 0 0 (List.length (gE 4 es (Nat.add (Int.toNat i*4) 3) 0)) none)),(12,(.int .i64 (m))),(13,(.int .i64 (i+1)))]) (hp [.row (v1) 9 1 0 none (l1),.row 0 9 1 0 none (gE 4 es (Nat.add (Int.toNat i*4) 3) 0)]))) (fun a12 =>
 bif a12.s then (need bot (GndR (a12.l1)) (need bot (GndR (a12.l2)) (k (.code (.exit 4) ((base 4 112).on [(0,(.osl 4 (a12.es))),(1,(.osl 1 (a12.ms))),(8,(.osl 1 (a12.xs))),(9,(.sl 0 (a12.v1) 0 (a12.n1) none)),(11,(.sl 1 (a12.v2) 0 (a12.n2) none)),(12,(.int .i64 (a12.m)))]) (hp [.row (a12.v1) 9 1 0 none (a12.l1),.row (a12.v2) 9 1 0 none (a12.l2)])))))
 else (need bot (GndR (a12.l1)) (k (.code (.exit 4) ((base 4 112).on [(0,(.osl 4 (a12.es))),(1,(.osl 1 (a12.ms))),(8,(.osl 1 (a12.xs))),(9,(.sl 0 (a12.v1) 0 (a12.n1) none)),(11,.nils),(12,(.int .i64 (a12.m)))]) (hp [.row (a12.v1) 9 1 0 none (a12.l1)])))))
 (fun e12=>k (qN e12))))))
 else (j2))))))))))
 else (need bot (GndR (l1)) (need bot (GndR (l1)) (k (.code (.exit 4) ((base 4 112).on [(0,(.osl 4 (es))),(1,(.osl 1 (ms))),(8,(.osl 1 (xs))),(9,(.sl 0 (v1) 0 (n1) none)),(11,.nils),(12,(.int .i64 (m)))]) (hp [.row (v1) 9 1 0 none (l1)]))))):=by kernel_rfl
theorem qU1 (X:TdX) (ih:Task→Res) {β:Type} (bot:β) (k:Res→β) (es ms xs:List V) (m i:Int) (v1 n1:Nat) (l1:List V) (v2 n2:Nat) (l2:List V):evN PP EP CP (qy0 X) ih bot (.code (.loop (lpB PP 4 2)) ((base 4 112).on [(0,.osl 4 es),(1,.osl 1 ms),(8,.osl 1 xs),(9,.sl 0 v1 0 n1 none),(11,.sl 1 v2 0 n2 none),(12,.int .i64 m),(13,.int .i64 i)]) (hp [rwT v1 l1,rwT v2 l2])) k =
 bif decide (i<(↑(List.length es):Int)) then (nX bot (i) (List.length es) (need bot (ldC PP 28 4 (es) (Nat.add (Int.toNat i*4) 3)) (bif qb0 (gE 4 es (Nat.add (Int.toNat i*4) 3) 0) then (jn (nI bot (m+1) (nI bot (i+1) (need bot (GndR (l1)) (need bot (GndR (l2)) (PR.bnd bot (X.8 (.code (.loop (lpB PP 4 2)) ((base 4 112).on [(0,(.osl 4 (es))),(1,(.osl 1 (ms))),(8,(.osl 1 (xs))),(9,(.sl 0 (v1) 0 (n1) none)),(11,(.sl 1 (v2) 0 (n2) none)),(12,(.int .i64 (m+1))),(13,(.int .i64 (i+1)))]) (hp [.row (v1) 9 1 0 none (l1),.row (v2) 9 1 0 none (l2)]))) (fun a9 =>
 bif a9.s then (need bot (GndR (a9.l1)) (need bot (GndR (a9.l2)) (k (.code (.exit 4) ((base 4 112).on [(0,(.osl 4 (a9.es))),(1,(.osl 1 (a9.ms))),(8,(.osl 1 (a9.xs))),(9,(.sl 0 (a9.v1) 0 (a9.n1) none)),(11,(.sl 1 (a9.v2) 0 (a9.n2) none)),(12,(.int .i64 (a9.m)))]) (hp [.row (a9.v1) 9 1 0 none (a9.l1),.row (a9.v2) 9 1 0 none (a9.l2)])))))
 else (need bot (GndR (a9.l1)) (k (.code (.exit 4) ((base 4 112).on [(0,(.osl 4 (a9.es))),(1,(.osl 1 (a9.ms))),(8,(.osl 1 (a9.xs))),(9,(.sl 0 (a9.v1) 0 (a9.n1) none)),(11,.nils),(12,(.int .i64 (a9.m)))]) (hp [.row (a9.v1) 9 1 0 none (a9.l1)])))))
 (fun e9=>k (qN e9)))))))
 (fun j1:β=>bif decide ((↑(List.length ms):Int)≤i) then (j1)
 else (nX bot (i) (List.length ms) (need bot (ldC PP 4 1 (ms) (Int.toNat i*1)) (bif gB 1 ms (Int.toNat i*1) 0 then (nI bot (i+1) (need bot (GndR (l1)) (need bot (GndR (l2)) (PR.bnd bot (X.8 (.code (.loop (lpB PP 4 2)) ((base 4 112).on [(0,(.osl 4 (es))),(1,(.osl 1 (ms))),(8,(.osl 1 (xs))),(9,(.sl 0 (v1) 0 (n1) none)),(11,(.sl 1 (v2) 0 (n2) none)),(12,(.int .i64 (m))),(13,(.int .i64 (i+1)))]) (hp [.row (v1) 9 1 0 none (l1),.row (v2) 9 1 0 none (l2)]))) (fun a11 =>
 bif a11.s then (need bot (GndR (a11.l1)) (need bot (GndR (a11.l2)) (k (.code (.exit 4) ((base 4 112).on [(0,(.osl 4 (a11.es))),(1,(.osl 1 (a11.ms))),(8,(.osl 1 (a11.xs))),(9,(.sl 0 (a11.v1) 0 (a11.n1) none)),(11,(.sl 1 (a11.v2) 0 (a11.n2) none)),(12,(.int .i64 (a11.m)))]) (hp [.row (a11.v1) 9 1 0 none (a11.l1),.row (a11.v2) 9 1 0 none (a11.l2)])))))
 else (need bot (GndR (a11.l1)) (k (.code (.exit 4) ((base 4 112).on [(0,(.osl 4 (a11.es))),(1,(.osl 1 (a11.ms))),(8,(.osl 1 (a11.xs))),(9,(.sl 0 (a11.v1) 0 (a11.n1) none)),(11,.nils),(12,(.int .i64 (a11.m)))]) (hp [.row (a11.v1) 9 1 0 none (a11.l1)])))))
 (fun e11=>k (qN e11))))))
 else (j1))))))
 else (need bot (((v2)=(v2))∧((gE 4 es (Nat.add (Int.toNat i*4) 3) 0≠[])∧(((n2)=(List.length l2))∧((0≤(n2))∧(((n2+List.length (gE 4 es (Nat.add (Int.toNat i*4) 3) 0))≤1099511627776)∧(((n2+List.length (gE 4 es (Nat.add (Int.toNat i*4) 3) 0))*16)≤1099511627776)))))) (jn (nI bot (m+1) (nI bot (i+1) (need bot (GndR (l1)) (need bot (GndR (l2++gE 4 es (Nat.add (Int.toNat i*4) 3) 0)) (PR.bnd bot (X.8 (.code (.loop (lpB PP 4 2)) ((base 4 112).on [(0,(.osl 4 (es))),(1,(.osl 1 (ms))),(8,(.osl 1 (xs))),(9,(.sl 0 (v1) 0 (n1) none)),(11,(.sl 1 (Nat.succ v2) 0 (n2+List.length (gE 4 es (Nat.add (Int.toNat i*4) 3) 0)) none)),(12,(.int .i64 (m+1))),(13,(.int .i64 (i+1)))]) (hp [.row (v1) 9 1 0 none (l1),.row (Nat.succ v2) 9 1 0 none (l2++gE 4 es (Nat.add (Int.toNat i*4) 3) 0)]))) (fun a10 =>
 bif a10.s then (need bot (GndR (a10.l1)) (need bot (GndR (a10.l2)) (k (.code (.exit 4) ((base 4 112).on [(0,(.osl 4 (a10.es))),(1,(.osl 1 (a10.ms))),(8,(.osl 1 (a10.xs))),(9,(.sl 0 (a10.v1) 0 (a10.n1) none)),(11,(.sl 1 (a10.v2) 0 (a10.n2) none)),(12,(.int .i64 (a10.m)))]) (hp [.row (a10.v1) 9 1 0 none (a10.l1),.row (a10.v2) 9 1 0 none (a10.l2)])))))
 else (need bot (GndR (a10.l1)) (k (.code (.exit 4) ((base 4 112).on [(0,(.osl 4 (a10.es))),(1,(.osl 1 (a10.ms))),(8,(.osl 1 (a10.xs))),(9,(.sl 0 (a10.v1) 0 (a10.n1) none)),(11,.nils),(12,(.int .i64 (a10.m)))]) (hp [.row (a10.v1) 9 1 0 none (a10.l1)])))))
 (fun e10=>k (qN e10)))))))
 (fun j2:β=>bif decide ((↑(List.length ms):Int)≤i) then (j2)
 else (nX bot (i) (List.length ms) (need bot (ldC PP 4 1 (ms) (Int.toNat i*1)) (bif gB 1 ms (Int.toNat i*1) 0 then (nI bot (i+1) (need bot (GndR (l1)) (need bot (GndR (l2++gE 4 es (Nat.add (Int.toNat i*4) 3) 0)) (PR.bnd bot (X.8 (.code (.loop (lpB PP 4 2)) ((base 4 112).on [(0,(.osl 4 (es))),(1,(.osl 1 (ms))),(8,(.osl 1 (xs))),(9,(.sl 0 (v1) 0 (n1) none)),(11,(.sl 1 (Nat.succ v2) 0 (n2+List.length (gE 4 es (Nat.add (Int.toNat i*4) 3) 0)) none)),(12,(.int .i64 (m))),(13,(.int .i64 (i+1)))]) (hp [.row (v1) 9 1 0 none (l1),.row (Nat.succ v2) 9 1 0 none (l2++gE 4 es (Nat.add (Int.toNat i*4) 3) 0)]))) (fun a12 =>
 bif a12.s then (need bot (GndR (a12.l1)) (need bot (GndR (a12.l2)) (k (.code (.exit 4) ((base 4 112).on [(0,(.osl 4 (a12.es))),(1,(.osl 1 (a12.ms))),(8,(.osl 1 (a12.xs))),(9,(.sl 0 (a12.v1) 0 (a12.n1) none)),(11,(.sl 1 (a12.v2) 0 (a12.n2) none)),(12,(.int .i64 (a12.m)))]) (hp [.row (a12.v1) 9 1 0 none (a12.l1),.row (a12.v2) 9 1 0 none (a12.l2)])))))
 else (need bot (GndR (a12.l1)) (k (.code (.exit 4) ((base 4 112).on [(0,(.osl 4 (a12.es))),(1,(.osl 1 (a12.ms))),(8,(.osl 1 (a12.xs))),(9,(.sl 0 (a12.v1) 0 (a12.n1) none)),(11,.nils),(12,(.int .i64 (a12.m)))]) (hp [.row (a12.v1) 9 1 0 none (a12.l1)])))))
 (fun e12=>k (qN e12))))))
 else (j2))))))))))
 else (need bot (GndR (l1)) (need bot (GndR (l2)) (need bot (GndR (l1)) (need bot (GndR (l2)) (k (.code (.exit 4) ((base 4 112).on [(0,(.osl 4 (es))),(1,(.osl 1 (ms))),(8,(.osl 1 (xs))),(9,(.sl 0 (v1) 0 (n1) none)),(11,(.sl 1 (v2) 0 (n2) none)),(12,(.int .i64 (m)))]) (hp [.row (v1) 9 1 0 none (l1),.row (v2) 9 1 0 none (l2)]))))))):=by kernel_rfl
theorem Zt1 (X:TdX) (ih:Task→Res) {β:Type} (bot:β) (k:Res→β) :evN PP EP CP (qy0 X) ih bot (.code (.loop (lpB PP 4 3)) ((base 4 112).on [(9,.nils),(11,.nils),(14,.int .i64 0)]) Heap.empty) k =
 k (.code (.exit 6) ((base 4 112).on []) Heap.empty):=by kernel_rfl
theorem qV1 (X:TdX) (ih:Task→Res) {β:Type} (bot:β) (k:Res→β) (i:Int) (v1 n1:Nat) (l1:List V) (v2 n2:Nat) (l2:List V):evN PP EP CP (qy0 X) ih bot (.code (.loop (lpB PP 4 3)) ((base 4 112).on [(9,.sl 0 v1 0 n1 none),(11,.sl 1 v2 0 n2 none),(14,.int .i64 i)]) (hp [rwT v1 l1,rwT v2 l2])) k =
 bif decide (i<(↑n1:Int)) then (need bot (((0:Int)≤(i))∧((i)<((↑n1:Int)))) (need bot (((v1)=(v1))∧(ldX PP 9 1 (l1) ((0+Int.toNat i)*1))) (need bot (((0:Int)≤(i))∧((i)<((↑n2:Int)))) (need bot (((v2)=(v2))∧(ldX PP 9 1 (l2) ((0+Int.toNat i)*1))) (bif !decide (gS 1 l1 ((0+Int.toNat i)*1) 0=gS 1 l2 ((0+Int.toNat i)*1) 0) then (need bot (GndR (l1)) (need bot (GndR (l2)) (need bot (GndR []) (need bot (GndR []) (k (.code .ret ((base 4 112).on [(4,(.bool false))]) (hp [.row (v1) 9 1 0 none [],.row (v2) 9 1 0 none []])))))))
 else (nI bot (i+1) (need bot (GndR (l1)) (need bot (GndR (l2)) (PR.bnd bot (X.9 (.code (.loop (lpB PP 4 3)) ((base 4 112).on [(9,(.sl 0 (v1) 0 (n1) none)),(11,(.sl 1 (v2) 0 (n2) none)),(14,(.int .i64 (i+1)))]) (hp [.row (v1) 9 1 0 none (l1),.row (v2) 9 1 0 none (l2)]))) (fun a9 =>
 bif a9.1 then (need bot (GndR []) (need bot (GndR []) (k (.code (.exit 6) ((base 4 112).on []) (hp [.row (a9.2.1) 9 1 0 none [],.row (a9.2.2) 9 1 0 none []])))))
 else (k (.code (.exit 6) ((base 4 112).on []) Heap.empty)))
 (fun e9=>k (qN e9)))))))))))
 else (need bot (GndR (l1)) (need bot (GndR (l2)) (need bot (GndR []) (need bot (GndR []) (k (.code (.exit 6) ((base 4 112).on []) (hp [.row (v1) 9 1 0 none [],.row (v2) 9 1 0 none []]))))))):=by kernel_rfl
theorem Zu1 (X:TdX) (ih:Task→Res) {β:Type} (bot:β) (k:Res→β) (es ms:List V):evN PP EP CP (qy0 X) ih bot (.call 4 [.osl 4 es,.osl 1 ms] Heap.empty) k =
 PR.bnd bot (X.6 (.code (.loop (lpB PP 4 0)) ((base 4 112).on [(0,(.osl 4 (es))),(1,(.osl 1 (ms))),(5,(.int .i64 0)),(6,(.int .i64 0))]) Heap.empty)) (fun a0 =>
 bif decide (200<a0.1) then (k (.ret (.bool true) Heap.empty))
 else (bif decide (200<(↑(List.length a0.2.2):Int)) then (k (.ret (.bool true) Heap.empty))
 else (PR.bnd bot (X.2 (.call 8 [(.osl 4 (a0.2.1)),(.osl 1 (a0.2.2))] Heap.empty)) (fun a3 =>
 jn (PR.bnd bot (X.9 (.code (.loop (lpB PP 4 3)) ((base 4 112).on [(9,.nils),(11,.nils),(14,(.int .i64 0))]) Heap.empty)) (fun a10 =>
 bif a10.1 then (k (.ret (.bool true) Heap.empty))
 else (k (.ret (.bool true) Heap.empty)))
 (fun e10=>k (qN e10)))
 (fun j1:β=>bif qb0 a3.1 then (PR.bnd bot (X.7 (.code (.loop (lpB PP 4 1)) ((base 4 112).on [(0,(.osl 4 (a0.2.1))),(1,(.osl 1 (a0.2.2))),(8,(.osl 1 (a3.2))),(9,.nils),(10,(.int .i64 0))]) Heap.empty)) (fun a5 =>
 bif a5.u then (PR.bnd bot (X.8 (.code (.loop (lpB PP 4 2)) ((base 4 112).on [(0,(.osl 4 (a5.es))),(1,(.osl 1 (a5.ms))),(8,(.osl 1 (a5.xs))),(9,(.sl 0 (a5.v1) 0 (a5.n1) none)),(11,.nils),(12,(.int .i64 0)),(13,(.int .i64 0))]) (hp [.row (a5.v1) 9 1 0 none (a5.l1)]))) (fun a7 =>
 bif a7.s then (bif !decide ((↑a7.n1:Int)=(↑a7.n2:Int)) then (k (.ret (.bool false) Heap.empty))
 else (bif !decide ((↑(List.length a7.xs):Int)=a7.m) then (k (.ret (.bool false) Heap.empty))
 else (PR.bnd bot (X.9 (.code (.loop (lpB PP 4 3)) ((base 4 112).on [(9,(.sl 0 (a7.v1) 0 (a7.n1) none)),(11,(.sl 1 (a7.v2) 0 (a7.n2) none)),(14,(.int .i64 0))]) (hp [.row (a7.v1) 9 1 0 none (a7.l1),.row (a7.v2) 9 1 0 none (a7.l2)]))) (fun a11 =>
 bif a11.1 then (k (.ret (.bool true) Heap.empty))
 else (k (.ret (.bool true) Heap.empty)))
 (fun e11=>k (qN e11)))))
 else (bif !decide ((↑a7.n1:Int)=0) then (k (.ret (.bool false) Heap.empty))
 else (bif !decide ((↑(List.length a7.xs):Int)=a7.m) then (k (.ret (.bool false) Heap.empty))
 else (PR.bnd bot (X.9 (.code (.loop (lpB PP 4 3)) ((base 4 112).on [(9,(.sl 0 (a7.v1) 0 (a7.n1) none)),(11,.nils),(14,(.int .i64 0))]) (hp [.row (a7.v1) 9 1 0 none (a7.l1)]))) (fun a11 =>
 bif a11.1 then (k (.ret (.bool true) Heap.empty))
 else (k (.ret (.bool true) Heap.empty)))
 (fun e11=>k (qN e11))))))
 (fun e7=>k (qN e7)))
 else (PR.bnd bot (X.8 (.code (.loop (lpB PP 4 2)) ((base 4 112).on [(0,(.osl 4 (a5.es))),(1,(.osl 1 (a5.ms))),(8,(.osl 1 (a5.xs))),(9,.nils),(11,.nils),(12,(.int .i64 0)),(13,(.int .i64 0))]) Heap.empty)) (fun a7 =>
 bif a7.s then (bif !decide (0=(↑a7.n2:Int)) then (k (.ret (.bool false) Heap.empty))
 else (bif !decide ((↑(List.length a7.xs):Int)=a7.m) then (k (.ret (.bool false) Heap.empty))
 else (PR.bnd bot (X.9 (.code (.loop (lpB PP 4 3)) ((base 4 112).on [(9,.nils),(11,(.sl 0 (a7.v2) 0 (a7.n2) none)),(14,(.int .i64 0))]) (hp [.row (a7.v2) 9 1 0 none (a7.l2)]))) (fun a11 =>
 bif a11.1 then (k (.ret (.bool true) Heap.empty))
 else (k (.ret (.bool true) Heap.empty)))
 (fun e11=>k (qN e11)))))
 else (bif !decide ((↑(List.length a7.xs):Int)=a7.m) then (k (.ret (.bool false) Heap.empty))
 else (j1)))
 (fun e7=>k (qN e7))))
 (fun e5=>k (qN e5)))
 else (need bot ((a3.1≠[])∧(((List.length a3.1)≤1099511627776)∧((List.length a3.1*16)≤1099511627776))) (PR.bnd bot (X.7 (.code (.loop (lpB PP 4 1)) ((base 4 112).on [(0,(.osl 4 (a0.2.1))),(1,(.osl 1 (a0.2.2))),(8,(.osl 1 (a3.2))),(9,(.sl 0 0 0 (List.length a3.1) none)),(10,(.int .i64 0))]) (hp [.row 0 9 1 0 none (a3.1)]))) (fun a6 =>
 bif a6.u then (PR.bnd bot (X.8 (.code (.loop (lpB PP 4 2)) ((base 4 112).on [(0,(.osl 4 (a6.es))),(1,(.osl 1 (a6.ms))),(8,(.osl 1 (a6.xs))),(9,(.sl 0 (a6.v1) 0 (a6.n1) none)),(11,.nils),(12,(.int .i64 0)),(13,(.int .i64 0))]) (hp [.row (a6.v1) 9 1 0 none (a6.l1)]))) (fun a8 =>
 bif a8.s then (bif !decide ((↑a8.n1:Int)=(↑a8.n2:Int)) then (k (.ret (.bool false) Heap.empty))
 else (bif !decide ((↑(List.length a8.xs):Int)=a8.m) then (k (.ret (.bool false) Heap.empty))
 else (PR.bnd bot (X.9 (.code (.loop (lpB PP 4 3)) ((base 4 112).on [(9,(.sl 0 (a8.v1) 0 (a8.n1) none)),(11,(.sl 1 (a8.v2) 0 (a8.n2) none)),(14,(.int .i64 0))]) (hp [.row (a8.v1) 9 1 0 none (a8.l1),.row (a8.v2) 9 1 0 none (a8.l2)]))) (fun a12 =>
 bif a12.1 then (k (.ret (.bool true) Heap.empty))
 else (k (.ret (.bool true) Heap.empty)))
 (fun e12=>k (qN e12)))))
 else (bif !decide ((↑a8.n1:Int)=0) then (k (.ret (.bool false) Heap.empty))
 else (bif !decide ((↑(List.length a8.xs):Int)=a8.m) then (k (.ret (.bool false) Heap.empty))
 else (PR.bnd bot (X.9 (.code (.loop (lpB PP 4 3)) ((base 4 112).on [(9,(.sl 0 (a8.v1) 0 (a8.n1) none)),(11,.nils),(14,(.int .i64 0))]) (hp [.row (a8.v1) 9 1 0 none (a8.l1)]))) (fun a12 =>
 bif a12.1 then (k (.ret (.bool true) Heap.empty))
 else (k (.ret (.bool true) Heap.empty)))
 (fun e12=>k (qN e12))))))
 (fun e8=>k (qN e8)))
 else (PR.bnd bot (X.8 (.code (.loop (lpB PP 4 2)) ((base 4 112).on [(0,(.osl 4 (a6.es))),(1,(.osl 1 (a6.ms))),(8,(.osl 1 (a6.xs))),(9,.nils),(11,.nils),(12,(.int .i64 0)),(13,(.int .i64 0))]) Heap.empty)) (fun a8 =>
 bif a8.s then (bif !decide (0=(↑a8.n2:Int)) then (k (.ret (.bool false) Heap.empty))
 else (bif !decide ((↑(List.length a8.xs):Int)=a8.m) then (k (.ret (.bool false) Heap.empty))
 else (PR.bnd bot (X.9 (.code (.loop (lpB PP 4 3)) ((base 4 112).on [(9,.nils),(11,(.sl 0 (a8.v2) 0 (a8.n2) none)),(14,(.int .i64 0))]) (hp [.row (a8.v2) 9 1 0 none (a8.l2)]))) (fun a12 =>
 bif a12.1 then (k (.ret (.bool true) Heap.empty))
 else (k (.ret (.bool true) Heap.empty)))
 (fun e12=>k (qN e12)))))
 else (bif !decide ((↑(List.length a8.xs):Int)=a8.m) then (k (.ret (.bool false) Heap.empty))
 else (j1)))
 (fun e8=>k (qN e8))))
 (fun e6=>k (qN e6))))))
 (fun _=>bot))))
 (fun e0=>k (qN e0)):=by kernel_rfl
/-- THE LAW's LOOPS. -/
theorem gE_sh (es:List V) (i:Nat):gE 4 es (Nat.add (i*4) 3) 0=nt es i:=by
 unfold nt gE Qc0
 rw [show Nat.add (i*4) 3/4=i by show (i*4+3)/4=i;omega,show Nat.add (i*4) 3%4+0=3 by show (i*4+3)%4+0=3;omega,show i*4/4=i by omega,show i*4%4+3=3 by omega]
structure Ef (es ms:List V):Prop extends En es ms where
 ldn:∀ n,n<es.length→ldC PP 28 4 es (Nat.add (n*4) 3)
 ldm:∀ n,n<ms.length→ldC PP 4 1 ms (n*1)
 small:szQ es es.length 0+es.length≤1000000000
noncomputable def rdA:Res→Ap
 | .code _ fr h=>⟨zM0 (T.get undef fr.tm 0),zM0 (T.get undef fr.tm 1),zM0 (T.get undef fr.tm 8),zF0 (T.get undef fr.tm 9),0,slN (T.get undef fr.tm 9),bif zF0 (T.get undef fr.tm 9) then rowE h (slR (T.get undef fr.tm 9)) else [],zF0 (T.get undef fr.tm 11),0,slN (T.get undef fr.tm 11),bif zF0 (T.get undef fr.tm 11) then rowE h (slR (T.get undef fr.tm 11)) else [],asInt (T.get undef fr.tm 12)⟩
 | _=>⟨[],[],[],false,0,0,[],false,0,0,[],0⟩
noncomputable def rd0:Res→Int×List V×List V
 | .code _ fr _=>(asInt (T.get undef fr.tm 5),zM0 (T.get undef fr.tm 0),zM0 (T.get undef fr.tm 1))
 | _=>(0,[],[])
noncomputable def t0 (es ms:List V) (n i:Int):Task:=.code (.loop (lpB PP 4 0)) ((base 4 112).on [(0,.osl 4 es),(1,.osl 1 ms),(5,.int .i64 n),(6,.int .i64 i)]) Heap.empty
theorem a0_ok {es ms:List V} (E:Ef es ms) (d:Nat):∀ (i:Nat) (n:Int),i+d=es.length→0≤n→n+((szQ es d i+d:Nat):Int)≤1000000000000→OkT (fun X=>X.A0 (t0 es ms n i)) (fun a=>a=(n+((szQ es d i+d:Nat):Int),es,ms)):=by
 have hl:=E.len
 induction d with
 | zero =>
  intro i n hi h0 h1
  refine .tk (R:=rA0 (frO (t0 es ms n i))) (L:=rd0) (fun _=>rfl) (fun _=>by kernel_rfl) (Tk.byT (.of (fun m=>qO1 (XT m) _ none some es ms n i) (.decF (by omega) (.ret ⟨(n,es,ms),rfl,?_⟩))))
  show (n,es,ms)=(n+((0+0:Nat):Int),es,ms)
  rw [show n+((0+0:Nat):Int)=n by omega]
 | succ d IH =>
  intro i n hi h0 h1
  have hN:gE 4 es (Nat.add (Int.toNat (i:Int)*4) 3) 0=nt es i:=gE_sh es i
  have hs:szQ es (d+1) i=(nt es i).length+szQ es d (i+1):=rfl
  rw [hs] at h1 ⊢
  refine .tk (R:=rA0 (frO (t0 es ms n i))) (L:=rd0) (fun _=>rfl) (fun _=>by kernel_rfl) (Tk.byT (.of (fun m=>qO1 (XT m) _ none some es ms n i) ?_))
  simp only [hN]
  refine .decT (by omega) (.nX ⟨by omega,by omega⟩ (.need (E.ldn i (by omega)) (.nI ⟨by omega,by omega⟩ (.nI ⟨by omega,by omega⟩ (.nI ⟨by omega,by omega⟩ (.bndT (IH (i+1) (n+(1+((nt es i).length:Int))) (by omega) (by omega) (by omega)) fun a ha=>?_))))))
  subst ha
  refine .ret ⟨(_,es,ms),rfl,?_⟩
  rw [show n+(1+((nt es i).length:Int))+((szQ es d (i+1)+d:Nat):Int)=n+(((nt es i).length+szQ es d (i+1)+(d+1):Nat):Int) by omega]
structure Q1 (es ms xs fin:List V) (a:Ap):Prop where
 es:a.es=es
 ms:a.ms=ms
 xs:a.xs=xs
 u:a.u=!qb0 fin
 l:a.u=true→a.l1=fin∧a.n1=fin.length
noncomputable def t1 (es ms xs:List V) (v n:Nat) (i:Int):List V→Task
 | []=>.code (.loop (lpB PP 4 1)) ((base 4 112).on [(0,.osl 4 es),(1,.osl 1 ms),(8,.osl 1 xs),(9,.nils),(10,.int .i64 i)]) Heap.empty
 | a::b=>.code (.loop (lpB PP 4 1)) ((base 4 112).on [(0,.osl 4 es),(1,.osl 1 ms),(8,.osl 1 xs),(9,.sl 0 v 0 n none),(10,.int .i64 i)]) (hp [rwT v (a::b)])
def nA1 (a:Ap):Ap:=⟨a.es,a.ms,a.xs,a.u,0,bif a.u then a.n1 else 0,bif a.u then a.l1 else [],false,0,0,[],0⟩
theorem rdA1 (a:Ap):rdA (rA1 (base 4 112) a.u a)=nA1 a:=by
 obtain ⟨es,ms,xs,u,v1,n1,l1,s,v2,n2,l2,m⟩:=a
 cases u <;> kernel_rfl
theorem Q1.back {es ms xs fin:List V} {a:Ap} (h:Q1 es ms xs fin (nA1 a)):Q1 es ms xs fin a:=by
 obtain ⟨h1,h2,h3,h4,h5⟩:=h
 refine ⟨h1,h2,h3,h4,fun e=>?_⟩
 have:=h5 e
 unfold nA1 at this
 simp only [e,cond_true] at this
 exact this
def xsN (xs:List V):Nat→Nat→List V
 | 0,_=>[]
 | d+1,i=>gE 1 xs (i*1) 0++xsN xs d (i+1)
structure Xf (xs:List V):Prop where
 len:xs.length≤1000000000
 ld:∀ i,i<xs.length→ldC PP 28 1 xs (i*1)
 gn:∀ i,i<xs.length→GndR (gE 1 xs (i*1) 0)
theorem yM1 (es ms xs:List V) (v n:Nat) (i:Int) (acc:List V) (u:Bool) (a:Ap):rA1 (frO (t1 es ms xs v n i acc)) u a=rA1 (base 4 112) u a:=by
 cases acc <;> rfl
theorem a1_of {es ms xs acc fin:List V} {v n:Nat} {i:Int} (h:∃ r,(∃ a,r=rA1 (base 4 112) a.u a∧Q1 es ms xs fin a)∧Tk (t1 es ms xs v n i acc) r):OkT (fun X=>X.A1 (t1 es ms xs v n i acc)) (Q1 es ms xs fin):=by
 obtain ⟨r,⟨a,e,hq⟩,hT⟩:=h
 refine OkT.nrm (R:=fun a=>rA1 (frO (t1 es ms xs v n i acc)) a.u a) (Q:=qN) (L:=rdA) (N:=nA1) (fun _=>rfl) (fun a=>by rw [yM1];exact rdA1 a) (fun a h=>h.back) ⟨r,⟨a,by rw [yM1];exact e,?_⟩,hT⟩
 obtain ⟨h1,h2,h3,h4,h5⟩:=hq
 refine ⟨h1,h2,h3,h4,fun e=>?_⟩
 obtain ⟨p1,p2⟩:=h5 e
 unfold nA1
 have e:a.u=true:=e
 simp only [e,cond_true]
 exact ⟨p1,p2⟩
theorem Q1.gnd {es ms xs fin:List V} {a:Ap} (h:Q1 es ms xs fin a) (hg:GndR fin) (e:a.u=true):GndR a.l1:=by rw [(h.l e).1];exact hg
theorem Xv0 {es ms xs:List V} (X:Xf xs) (d:Nat):∀ (i v n:Nat) (acc:List V),i+d=xs.length→n=acc.length→GndR acc→GndR (acc++xsN xs d i)→(acc++xsN xs d i).length≤1000000000→OkT (fun X=>X.A1 (t1 es ms xs v n i acc)) (Q1 es ms xs (acc++xsN xs d i)):=by
 have hl:=X.len
 induction d with
 | zero =>
  intro i v n acc hi hn hg hf hs
  subst hn
  refine a1_of (Tk.byT ?_)
  have e0:acc++xsN xs 0 i=acc:=List.append_nil _
  rw [e0] at hf ⊢
  cases acc with
  | nil=>exact .of (fun m=>qP1 (XT m) _ none some es ms xs i) (.decF (by omega) (.ret ⟨⟨es,ms,xs,false,0,0,[],false,0,0,[],0⟩,rfl,rfl,rfl,rfl,rfl,fun e=>by cases e⟩))
  | cons a b=>exact .of (fun m=>qQ1 (XT m) _ none some es ms xs i v (a::b).length (a::b)) (.decF (by omega) (.need hg (.need hg (.ret ⟨⟨es,ms,xs,true,v,(a::b).length,a::b,false,0,0,[],0⟩,rfl,rfl,rfl,rfl,rfl,fun _=>⟨rfl,rfl⟩⟩))))
 | succ d IH =>
  intro i v n acc hi hn hg hf hs
  subst hn
  refine a1_of (Tk.byT ?_)
  have hx:xsN xs (d+1) i=gE 1 xs (i*1) 0++xsN xs d (i+1):=rfl
  have hgi:=X.gn i (by omega)
  have hld:=X.ld i (by omega)
  rw [hx] at hf hs ⊢
  cases acc with
  | nil =>
   refine .of (fun m=>qP1 (XT m) _ none some es ms xs i) (.decT (by omega) (.nX ⟨by omega,by omega⟩ (.need hld (.cond (fun hn=>?_) (fun hn=>?_)))))
   ·have hn:gE 1 xs (i*1) 0=[]:=qY0 hn
    rw [hn] at hf hs ⊢
    refine .nI ⟨by omega,by omega⟩ (.bndT (IH (i+1) 0 0 [] (by omega) rfl hg hf hs) fun a ha=>?_)
    (refine .cond (fun hu=>.need (Q1.gnd ha hf hu) (.ret ⟨a,by rw [hu];rfl,ha⟩)) (fun hu=>.ret ⟨a,by rw [hu];rfl,ha⟩))
   ·have hn:gE 1 xs (i*1) 0≠[]:=Ye0 hn
    simp only [List.nil_append,List.length_append] at hf hs ⊢
    obtain ⟨c,l,hc⟩:∃ c l,gE 1 xs (i*1) 0=c::l:=by
     cases hq:gE 1 xs (i*1) 0 with
     | nil=>exact absurd hq hn
     | cons c l=>exact ⟨c,l,rfl⟩
    have e1:gE 1 xs (Int.toNat (i:Int)*1) 0=c::l:=hc
    rw [hc] at hgi hf hs ⊢
    simp only [e1]
    refine .need ⟨(fun e=>by cases e),by omega,by omega⟩ (.nI ⟨by omega,by omega⟩ (.need hgi (.bndT (IH (i+1) 0 (c::l).length (c::l) (by omega) rfl hgi hf (by rw [List.length_append];omega)) fun a ha=>?_)))
    (refine .cond (fun hu=>.need (Q1.gnd ha hf hu) (.ret ⟨a,by rw [hu];rfl,ha⟩)) (fun hu=>.ret ⟨a,by rw [hu];rfl,ha⟩))
  | cons a0 b0 =>
   refine .of (fun m=>qQ1 (XT m) _ none some es ms xs i v (a0::b0).length (a0::b0)) (.decT (by omega) (.nX ⟨by omega,by omega⟩ (.need hld (.cond (fun hn=>?_) (fun hn=>?_)))))
   ·have hn:gE 1 xs (i*1) 0=[]:=qY0 hn
    rw [hn] at hf hs ⊢
    refine .nI ⟨by omega,by omega⟩ (.need hg (.bndT (IH (i+1) v (a0::b0).length (a0::b0) (by omega) rfl hg hf hs) fun a ha=>?_))
    (refine .cond (fun hu=>.need (Q1.gnd ha hf hu) (.ret ⟨a,by rw [hu];rfl,ha⟩)) (fun hu=>.ret ⟨a,by rw [hu];rfl,ha⟩))
   ·have hn:gE 1 xs (Int.toNat (i:Int)*1) 0≠[]:=Ye0 hn
    rw [← List.append_assoc] at hf hs ⊢
    have hga:=hg.app hgi
    have hs':=hs
    simp only [List.length_append] at hs'
    have e1:gE 1 xs (Int.toNat (i:Int)*1) 0=gE 1 xs (i*1) 0:=rfl
    simp only [e1] at hn ⊢
    refine .need ⟨trivial,hn,trivial,by omega,by omega,by omega⟩ (.nI ⟨by omega,by omega⟩ (.need hga (.bndT (IH (i+1) (v+1) ((a0::b0).length+(gE 1 xs (i*1) 0).length) (a0::b0++gE 1 xs (i*1) 0) (by omega) (by rw [List.length_append]) hga hf hs) fun a ha=>?_)))
    (refine .cond (fun hu=>.need (Q1.gnd ha hf hu) (.ret ⟨a,by rw [hu];rfl,ha⟩)) (fun hu=>.ret ⟨a,by rw [hu];rfl,ha⟩))
end Go.AM
