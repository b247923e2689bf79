/-
  WHAT FUNCTIONS OF THE PROGRAM COME TO, told by the machine, and plain laws of it. No condition but what each theorem says of its arguments.
-/
import Derived.Test.YtcfdhkmbooipbaaGreatDoorTt9
namespace Go.AM
open Go.Proofs
set_option maxRecDepth 100000
set_option maxHeartbeats 4000000
/-- subeditorref15.Spread. -/
structure OutR (es ms:List V) (q:Sq) (a:Sr):Prop where
 es:a.es=es
 ms:a.ms=ms
 u:a.u=!qb0 q.1
 l:a.u=true→a.l1=q.1∧a.n1=q.1.length
 s:a.s=q.2.isSome
 k:∀ o l,q.2=some (o,l)→a.l2=o∧a.n2=o.length+1∧a.x=l
 g1:GndR q.1
 g2:∀ o l,q.2=some (o,l)→GndR o
theorem OutR.gl1 {es ms:List V} {q:Sq} {a:Sr} (h:OutR es ms q a) (hu:a.u=true):GndR a.l1:=by rw [(h.l hu).1];exact h.g1
theorem OutR.gl2 {es ms:List V} {q:Sq} {a:Sr} (h:OutR es ms q a) (hs:a.s=true):GndR a.l2:=by
 obtain ⟨ld,p⟩:=q
 cases p with
 | none=>exact nomatch (h.s.symm.trans hs)
 | some p=>rw [(h.k p.1 p.2 rfl).1];exact h.g2 p.1 p.2 rfl
theorem ze0 {es ms:List V} {q:Sq} {a:Sr} (h:OutR es ms q a):Rn (fun _=>f15 none some a) (fun r=>∃ a,r=rSr (base 9 62) a.u a.s a∧OutR es ms q a):=by
 unfold f15
 refine .cond (fun hu=>.cond (fun hs=>?_) (fun hs=>?_)) (fun hu=>.cond (fun hs=>?_) (fun hs=>?_))
 ·exact .need (h.gl1 hu) (.need (h.gl2 hs) (.ret ⟨a,by rw [hu,hs],h⟩))
 ·exact .need (h.gl1 hu) (.ret ⟨a,by rw [hu,hs],h⟩)
 ·exact .need (h.gl2 hs) (.ret ⟨a,by rw [hu,hs],h⟩)
 ·exact .ret ⟨a,by rw [hu,hs],h⟩
noncomputable def tR (es ms:List V) (v1 n1 v2 n2:Nat) (i:Int):Sq→Task
 | ([],none)=>.code (.loop (lpB PP 9 0)) ((base 9 62).on [(0,.osl 4 es),(1,.osl 1 ms),(6,.nils),(7,.nils),(8,.int .i64 i)]) Heap.empty
 | (a::b,none)=>.code (.loop (lpB PP 9 0)) ((base 9 62).on [(0,.osl 4 es),(1,.osl 1 ms),(6,.sl 0 v1 0 n1 none),(7,.nils),(8,.int .i64 i)]) (hp [rwT v1 (a::b)])
 | ([],some (o,l))=>.code (.loop (lpB PP 9 0)) ((base 9 62).on [(0,.osl 4 es),(1,.osl 1 ms),(6,.nils),(7,.sl 0 v2 0 n2 none),(8,.int .i64 i)]) (hp [rwO v2 o (.osl 1 l)])
 | (a::b,some (o,l))=>.code (.loop (lpB PP 9 0)) ((base 9 62).on [(0,.osl 4 es),(1,.osl 1 ms),(6,.sl 0 v1 0 n1 none),(7,.sl 1 v2 0 n2 none),(8,.int .i64 i)]) (hp [rwT v1 (a::b),rwO v2 o (.osl 1 l)])
noncomputable def rdR:Res→Sr
 | .code _ fr h=>⟨qK0 (T.get undef fr.tm 0),qK0 (T.get undef fr.tm 1),zS0 (T.get undef fr.tm 6),0,slN (T.get undef fr.tm 6),bif zS0 (T.get undef fr.tm 6) then rowE h (slR (T.get undef fr.tm 6)) else [],zS0 (T.get undef fr.tm 7),0,slN (T.get undef fr.tm 7),bif zS0 (T.get undef fr.tm 7) then rowE h (slR (T.get undef fr.tm 7)) else [],bif zS0 (T.get undef fr.tm 7) then qK0 (rowX h (slR (T.get undef fr.tm 7))) else []⟩
 | _=>⟨[],[],false,0,0,[],false,0,0,[],[]⟩
def nR (a:Sr):Sr:=⟨a.es,a.ms,a.u,0,bif a.u then a.n1 else 0,bif a.u then a.l1 else [],a.s,0,bif a.s then a.n2 else 0,bif a.s then a.l2 else [],bif a.s then a.x else []⟩
theorem rdR_eq (a:Sr):rdR (rSr (base 9 62) a.u a.s a)=nR a:=by
 obtain ⟨es,ms,u,v1,n1,l1,s,v2,n2,l2,x⟩:=a
 cases u <;> cases s <;> kernel_rfl
theorem OutR.iff {es ms:List V} {q:Sq} {a:Sr}:OutR es ms q (nR a)↔OutR es ms q a:=by
 constructor
 ·rintro ⟨h1,h2,h3,h4,h5,h6,h7,h8⟩
  refine ⟨h1,h2,h3,fun e=>?_,h5,fun o l e=>?_,h7,h8⟩
  ·have:=h4 e
   unfold nR at this
   simp only [e,cond_true] at this
   exact this
  ·have:=h6 o l e
   unfold nR at this
   have hs:a.s=true:=by rw [show a.s=q.2.isSome from h5,e];rfl
   simp only [hs,cond_true] at this
   exact this
 ·rintro ⟨h1,h2,h3,h4,h5,h6,h7,h8⟩
  refine ⟨h1,h2,h3,fun e=>?_,h5,fun o l e=>?_,h7,h8⟩
  ·have:=h4 e
   unfold nR
   have e:a.u=true:=e
   simp only [e,cond_true]
   exact this
  ·have:=h6 o l e
   unfold nR
   have hs:a.s=true:=by rw [h5,e];rfl
   simp only [hs,cond_true]
   exact this
theorem jS1 (es ms:List V) (v1 n1 v2 n2:Nat) (i:Int) (q:Sq) (u s:Bool) (a:Sr):rSr (frO (tR es ms v1 n1 v2 n2 i q)) u s a=rSr (base 9 62) u s a:=by
 obtain ⟨ld,x⟩:=q
 cases ld <;> cases x <;> rfl
theorem sr_of {es ms:List V} {v1 n1 v2 n2:Nat} {i:Int} {q q':Sq} (h:∃ r,(∃ a,r=rSr (base 9 62) a.u a.s a∧OutR es ms q' a)∧Tk (tR es ms v1 n1 v2 n2 i q) r):OkS (fun X=>X.Sr (tR es ms v1 n1 v2 n2 i q)) (OutR es ms q'):=by
 obtain ⟨r,⟨a,e,hq⟩,hT⟩:=h
 exact OkS.nrm (R:=fun a=>rSr (frO (tR es ms v1 n1 v2 n2 i q)) a.u a.s a) (Q:=qN) (L:=rdR) (N:=nR) (fun _=>rfl) (fun a=>by rw [jS1];exact rdR_eq a) (fun a h=>OutR.iff.1 h) ⟨r,⟨a,by rw [jS1];exact e,OutR.iff.2 hq⟩,hT⟩
def NxR (es ms:List V) (d n:Nat):Prop:=∀ (v1 n1 v2 n2:Nat) (q:Sq),OkQ es d n q→n1=q.1.length→n2=qx0 q→OkS (fun X=>X.Sr (tR es ms v1 n1 v2 n2 n q)) (OutR es ms (qa0 es ms d n q))
theorem sr_ok {es ms:List V} (E:Ei es ms) (d:Nat):∀ n,NxR es ms d n:=by
 induction d with
 | zero =>
  intro i v1 n1 v2 n2 q h h1 h2
  subst h1 h2
  have hn:¬ ((i:Int)<(es.length:Int)):=by have:=h.at';omega
  refine sr_of (Tk.byS ?_)
  obtain ⟨ld,x⟩:=q
  have g1:GndR ld:=h.g1
  cases x with
  | none =>
   cases ld with
   | nil=>exact .of (fun m=>zx1 (XS m) _ none some es ms i) (.decF hn (.ret ⟨⟨es,ms,false,0,0,[],false,0,0,[],[]⟩,rfl,rfl,rfl,rfl,(fun e=>by cases e),rfl,(fun _ _ e=>by cases e),g1,(fun _ _ e=>by cases e)⟩))
   | cons a b=>exact .of (fun m=>zz1 (XS m) _ none some es ms i v1 (a::b).length (a::b)) (.decF hn (.need g1 (.need g1 (.ret ⟨⟨es,ms,true,v1,(a::b).length,a::b,false,0,0,[],[]⟩,rfl,rfl,rfl,rfl,(fun _=>⟨rfl,rfl⟩),rfl,(fun _ _ e=>by cases e),g1,(fun _ _ e=>by cases e)⟩))))
  | some p =>
   obtain ⟨o,l⟩:=p
   obtain ⟨g2,g3⟩:=h.g2 o l rfl
   cases ld with
   | nil=>exact .of (fun m=>zy1 (XS m) _ none some es ms i v2 (o.length+1) o l) (.decF hn (.need g2 (.need g2 (.ret ⟨⟨es,ms,false,0,0,[],true,v2,o.length+1,o,l⟩,rfl,rfl,rfl,rfl,(fun e=>by cases e),rfl,(fun _ _ e=>by cases e;exact ⟨rfl,rfl,rfl⟩),g1,(fun _ _ e=>by cases e;exact g2)⟩))))
   | cons a b=>exact .of (fun m=>zA1 (XS m) _ none some es ms i v1 (a::b).length (a::b) v2 (o.length+1) o l) (.decF hn (.need g1 (.need g2 (.need g1 (.need g2 (.ret ⟨⟨es,ms,true,v1,(a::b).length,a::b,true,v2,o.length+1,o,l⟩,rfl,rfl,rfl,rfl,(fun _=>⟨rfl,rfl⟩),rfl,(fun _ _ e=>by cases e;exact ⟨rfl,rfl,rfl⟩),g1,(fun _ _ e=>by cases e;exact g2)⟩))))))
 | succ d IH =>
  intro i v1 n1 v2 n2 q h h1 h2
  subst h1 h2
  have hlt:i<es.length:=by have:=h.at';omega
  have hl:=E.len
  have hN:gE 4 es (Int.toNat (i:Int)*4+3) 0=nt es i:=gE_sh es i
  have hld:ldC PP 28 4 es (Int.toNat (i:Int)*4+3):=E.ldn i hlt
  have hgN:=E.gnt i hlt
  have hg0:GndR []:=GndR.nil
  have hsz:(nt es i).length≤68719476736:=by
   have:=h.sum
   change q.1.length+qG0 q+((nt es i).length+szQ es d (i+1))≤_ at this
   omega
  have hb1:cnt ms i=false→i<ms.length∧gB 1 ms (Int.toNat (i:Int)*1) 0=true:=fun e=>by
   unfold cnt at e
   simp only [Bool.or_eq_false_iff,decide_eq_false_iff_not,Bool.not_eq_false'] at e
   exact ⟨by omega,e.2⟩
  have hcT:ms.length≤i→cnt ms i=true:=fun e=>by unfold cnt;rw [decide_eq_true e];rfl
  have hcB:gB 1 ms (Int.toNat (i:Int)*1) 0=false→cnt ms i=true:=fun e=>by unfold cnt;rw [show gB 1 ms (i*1) 0=false from e];simp
  have hcF:i<ms.length→gB 1 ms (Int.toNat (i:Int)*1) 0=true→cnt ms i=false:=fun e1 e2=>by unfold cnt;rw [decide_eq_false (by omega),show gB 1 ms (i*1) 0=true from e2];rfl
  refine sr_of (Tk.byS ?_)
  obtain ⟨ld,x⟩:=q
  have g1:GndR ld:=h.g1
  cases x with
  | none =>
   cases ld with
   | nil =>
    refine .of (fun m=>zx1 (XS m) _ none some es ms i) ?_
    simp only [Nat.add_eq,hN]
    refine .decT (by omega) (.joinC (c:=cnt ms i=true) (fun hc=>?_) (fun j hj=>.dec (fun hm=>hj (hcT (by omega))) (fun hm=>.nX ⟨by omega,by omega⟩ (.need (E.ldm i (by omega)) (.cond (fun hb=>?_) (fun hb=>hj (hcB hb)))))))
    ·(repeat (first | (with_reducible refine Rn.nI ⟨by omega,by omega⟩ ?_) | (with_reducible refine Rn.nX ⟨by omega,by omega⟩ ?_) | ((with_reducible refine Rn.need ?_ ?_);focus (first | assumption | ((repeat' apply And.intro) <;> first | exact trivial | omega | assumption | rfl | (intro e;cases e;done))))))
     refine .cond (fun hn=>?_) (fun hn=>?_)
     ·have hn:nt es i=[]:=qI0 hn
      have hq:qe0 (nt es i) (cnt ms i) (([],none):Sq)=([],some ([],[])):=by rw [hc,hn];rfl
      have hk:=h.next E.toEn (cnt ms i)
      rw [hq] at hk
      have hf:qa0 es ms (d+1) i (([],none):Sq)=qa0 es ms d (i+1) ([],some ([],[])):=by show qa0 es ms d (i+1) (qe0 (nt es i) (cnt ms i) (([],none):Sq))=_;rw [hq]
      rw [hf]
      (repeat (first | (with_reducible refine Rn.nI ⟨by omega,by omega⟩ ?_) | (with_reducible refine Rn.nX ⟨by omega,by omega⟩ ?_) | ((with_reducible refine Rn.need ?_ ?_);focus (first | assumption | ((repeat' apply And.intro) <;> first | exact trivial | omega | assumption | rfl | (intro e;cases e;done))))))
      exact .bndS (IH (i+1) 0 0 0 1 ([],some ([],[])) hk rfl rfl) (fun a ha=>ze0 ha)
     ·obtain ⟨c0,k0,hn⟩:=yI0 hn
      rw [hn] at hgN hsz ⊢
      have hq:qe0 (nt es i) (cnt ms i) (([],none):Sq)=([],some ([],c0::k0)):=by rw [hc,hn];rfl
      have hk:=h.next E.toEn (cnt ms i)
      rw [hq] at hk
      have hf:qa0 es ms (d+1) i (([],none):Sq)=qa0 es ms d (i+1) ([],some ([],c0::k0)):=by show qa0 es ms d (i+1) (qe0 (nt es i) (cnt ms i) (([],none):Sq))=_;rw [hq]
      rw [hf]
      (repeat (first | (with_reducible refine Rn.nI ⟨by omega,by omega⟩ ?_) | (with_reducible refine Rn.nX ⟨by omega,by omega⟩ ?_) | ((with_reducible refine Rn.need ?_ ?_);focus (first | assumption | ((repeat' apply And.intro) <;> first | exact trivial | omega | assumption | rfl | (intro e;cases e;done))))))
      exact .bndS (IH (i+1) 0 0 0 1 ([],some ([],c0::k0)) hk rfl rfl) (fun a ha=>ze0 ha)
    ·have hc:=hcF (by omega) hb
     (repeat (first | (with_reducible refine Rn.nI ⟨by omega,by omega⟩ ?_) | (with_reducible refine Rn.nX ⟨by omega,by omega⟩ ?_) | ((with_reducible refine Rn.need ?_ ?_);focus (first | assumption | ((repeat' apply And.intro) <;> first | exact trivial | omega | assumption | rfl | (intro e;cases e;done))))))
     refine .cond (fun hn=>?_) (fun hn=>?_)
     ·have hn:nt es i=[]:=qI0 hn
      have hq:qe0 (nt es i) (cnt ms i) (([],none):Sq)=([],none):=by rw [hc,hn];rfl
      have hk:=h.next E.toEn (cnt ms i)
      rw [hq] at hk
      have hf:qa0 es ms (d+1) i (([],none):Sq)=qa0 es ms d (i+1) ([],none):=by show qa0 es ms d (i+1) (qe0 (nt es i) (cnt ms i) (([],none):Sq))=_;rw [hq]
      rw [hf]
      (repeat (first | (with_reducible refine Rn.nI ⟨by omega,by omega⟩ ?_) | (with_reducible refine Rn.nX ⟨by omega,by omega⟩ ?_) | ((with_reducible refine Rn.need ?_ ?_);focus (first | assumption | ((repeat' apply And.intro) <;> first | exact trivial | omega | assumption | rfl | (intro e;cases e;done))))))
      exact .bndS (IH (i+1) 0 0 0 0 ([],none) hk rfl rfl) (fun a ha=>ze0 ha)
     ·obtain ⟨c0,k0,hn⟩:=yI0 hn
      rw [hn] at hgN hsz ⊢
      have hq:qe0 (nt es i) (cnt ms i) (([],none):Sq)=(c0::k0,none):=by rw [hc,hn];rfl
      have hk:=h.next E.toEn (cnt ms i)
      rw [hq] at hk
      have hf:qa0 es ms (d+1) i (([],none):Sq)=qa0 es ms d (i+1) (c0::k0,none):=by show qa0 es ms d (i+1) (qe0 (nt es i) (cnt ms i) (([],none):Sq))=_;rw [hq]
      rw [hf]
      (repeat (first | (with_reducible refine Rn.nI ⟨by omega,by omega⟩ ?_) | (with_reducible refine Rn.nX ⟨by omega,by omega⟩ ?_) | ((with_reducible refine Rn.need ?_ ?_);focus (first | assumption | ((repeat' apply And.intro) <;> first | exact trivial | omega | assumption | rfl | (intro e;cases e;done))))))
      exact .bndS (IH (i+1) 0 (c0::k0).length 0 0 (c0::k0,none) hk rfl rfl) (fun a ha=>ze0 ha)
   | cons a b =>
    refine .of (fun m=>zz1 (XS m) _ none some es ms i v1 (a::b).length (a::b)) ?_
    simp only [Nat.add_eq,hN]
    have hga:GndR (a::b++nt es i):=g1.app hgN
    have hsa:(a::b).length+(nt es i).length≤68719476736:=by
     have:=h.sum
     change (a::b).length+0+((nt es i).length+szQ es d (i+1))≤_ at this
     omega
    have hsb:(a::b++nt es i).length=(a::b).length+(nt es i).length:=List.length_append
    refine .decT (by omega) (.joinC (c:=cnt ms i=true) (fun hc=>?_) (fun j hj=>.dec (fun hm=>hj (hcT (by omega))) (fun hm=>.nX ⟨by omega,by omega⟩ (.need (E.ldm i (by omega)) (.cond (fun hb=>?_) (fun hb=>hj (hcB hb)))))))
    ·(repeat (first | (with_reducible refine Rn.nI ⟨by omega,by omega⟩ ?_) | (with_reducible refine Rn.nX ⟨by omega,by omega⟩ ?_) | ((with_reducible refine Rn.need ?_ ?_);focus (first | assumption | ((repeat' apply And.intro) <;> first | exact trivial | omega | assumption | rfl | (intro e;cases e;done))))))
     refine .cond (fun hn=>?_) (fun hn=>?_)
     ·have hn:nt es i=[]:=qI0 hn
      have hq:qe0 (nt es i) (cnt ms i) ((a::b,none):Sq)=(a::b,some ([],[])):=by rw [hc,hn];rfl
      have hk:=h.next E.toEn (cnt ms i)
      rw [hq] at hk
      have hf:qa0 es ms (d+1) i ((a::b,none):Sq)=qa0 es ms d (i+1) (a::b,some ([],[])):=by show qa0 es ms d (i+1) (qe0 (nt es i) (cnt ms i) ((a::b,none):Sq))=_;rw [hq]
      rw [hf]
      (repeat (first | (with_reducible refine Rn.nI ⟨by omega,by omega⟩ ?_) | (with_reducible refine Rn.nX ⟨by omega,by omega⟩ ?_) | ((with_reducible refine Rn.need ?_ ?_);focus (first | assumption | ((repeat' apply And.intro) <;> first | exact trivial | omega | assumption | rfl | (intro e;cases e;done))))))
      exact .bndS (IH (i+1) v1 (a::b).length 0 1 (a::b,some ([],[])) hk rfl rfl) (fun a ha=>ze0 ha)
     ·obtain ⟨c0,k0,hn⟩:=yI0 hn
      rw [hn] at hgN hsz ⊢
      have hq:qe0 (nt es i) (cnt ms i) ((a::b,none):Sq)=(a::b,some ([],c0::k0)):=by rw [hc,hn];rfl
      have hk:=h.next E.toEn (cnt ms i)
      rw [hq] at hk
      have hf:qa0 es ms (d+1) i ((a::b,none):Sq)=qa0 es ms d (i+1) (a::b,some ([],c0::k0)):=by show qa0 es ms d (i+1) (qe0 (nt es i) (cnt ms i) ((a::b,none):Sq))=_;rw [hq]
      rw [hf]
      (repeat (first | (with_reducible refine Rn.nI ⟨by omega,by omega⟩ ?_) | (with_reducible refine Rn.nX ⟨by omega,by omega⟩ ?_) | ((with_reducible refine Rn.need ?_ ?_);focus (first | assumption | ((repeat' apply And.intro) <;> first | exact trivial | omega | assumption | rfl | (intro e;cases e;done))))))
      exact .bndS (IH (i+1) v1 (a::b).length 0 1 (a::b,some ([],c0::k0)) hk rfl rfl) (fun a ha=>ze0 ha)
    ·have hc:=hcF (by omega) hb
     (repeat (first | (with_reducible refine Rn.nI ⟨by omega,by omega⟩ ?_) | (with_reducible refine Rn.nX ⟨by omega,by omega⟩ ?_) | ((with_reducible refine Rn.need ?_ ?_);focus (first | assumption | ((repeat' apply And.intro) <;> first | exact trivial | omega | assumption | rfl | (intro e;cases e;done))))))
     refine .cond (fun hn=>?_) (fun hn=>?_)
     ·have hn:nt es i=[]:=qI0 hn
      have hq:qe0 (nt es i) (cnt ms i) ((a::b,none):Sq)=(a::b,none):=by rw [hc,hn];show (a::b++[],none)=_;rw [List.append_nil]
      have hk:=h.next E.toEn (cnt ms i)
      rw [hq] at hk
      have hf:qa0 es ms (d+1) i ((a::b,none):Sq)=qa0 es ms d (i+1) (a::b,none):=by show qa0 es ms d (i+1) (qe0 (nt es i) (cnt ms i) ((a::b,none):Sq))=_;rw [hq]
      rw [hf]
      (repeat (first | (with_reducible refine Rn.nI ⟨by omega,by omega⟩ ?_) | (with_reducible refine Rn.nX ⟨by omega,by omega⟩ ?_) | ((with_reducible refine Rn.need ?_ ?_);focus (first | assumption | ((repeat' apply And.intro) <;> first | exact trivial | omega | assumption | rfl | (intro e;cases e;done))))))
      exact .bndS (IH (i+1) v1 (a::b).length 0 0 (a::b,none) hk rfl rfl) (fun a ha=>ze0 ha)
     ·obtain ⟨c0,k0,hn⟩:=yI0 hn
      rw [hn] at hgN hsz hga hsa hsb ⊢
      have hq:qe0 (nt es i) (cnt ms i) ((a::b,none):Sq)=(a::b++c0::k0,none):=by rw [hc,hn];rfl
      have hk:=h.next E.toEn (cnt ms i)
      rw [hq] at hk
      have hf:qa0 es ms (d+1) i ((a::b,none):Sq)=qa0 es ms d (i+1) (a::b++c0::k0,none):=by show qa0 es ms d (i+1) (qe0 (nt es i) (cnt ms i) ((a::b,none):Sq))=_;rw [hq]
      rw [hf]
      (repeat (first | (with_reducible refine Rn.nI ⟨by omega,by omega⟩ ?_) | (with_reducible refine Rn.nX ⟨by omega,by omega⟩ ?_) | ((with_reducible refine Rn.need ?_ ?_);focus (first | assumption | ((repeat' apply And.intro) <;> first | exact trivial | omega | assumption | rfl | (intro e;cases e;done))))))
      exact .bndS (IH (i+1) (v1+1) ((a::b).length+(c0::k0).length) 0 0 (a::b++c0::k0,none) hk hsb.symm rfl) (fun a ha=>ze0 ha)
  | some p =>
   obtain ⟨o,l⟩:=p
   obtain ⟨g2,g3⟩:=h.g2 o l rfl
   have ho:o.length+1≤i:=h.out
   have hgo:GndR (o++[V.osl 1 l]):=g2.app (jk0 l)
   have e2:(o++[V.osl 1 l]).length=o.length+1:=by simp
   have hgl:GndR (l++nt es i):=g3.app hgN
   have hlb:(l++nt es i).length=l.length+(nt es i).length:=List.length_append
   have hla:l.length+(nt es i).length≤68719476736:=by
    have:=h.sum
    change ld.length+l.length+((nt es i).length+szQ es d (i+1))≤_ at this
    omega
   cases ld with
   | nil =>
    refine .of (fun m=>zy1 (XS m) _ none some es ms i v2 (o.length+1) o l) ?_
    simp only [Nat.add_eq,Nat.succ_eq_add_one,hN,e2]
    refine .decT (by omega) (.joinC (c:=cnt ms i=true) (fun hc=>?_) (fun j hj=>.dec (fun hm=>hj (hcT (by omega))) (fun hm=>.nX ⟨by omega,by omega⟩ (.need (E.ldm i (by omega)) (.cond (fun hb=>?_) (fun hb=>hj (hcB hb)))))))
    ·(repeat (first | (with_reducible refine Rn.nI ⟨by omega,by omega⟩ ?_) | (with_reducible refine Rn.nX ⟨by omega,by omega⟩ ?_) | ((with_reducible refine Rn.need ?_ ?_);focus (first | assumption | ((repeat' apply And.intro) <;> first | exact trivial | omega | assumption | rfl | (intro e;cases e;done))))))
     refine .decF (by omega) ?_
     (repeat (first | (with_reducible refine Rn.nI ⟨by omega,by omega⟩ ?_) | (with_reducible refine Rn.nX ⟨by omega,by omega⟩ ?_) | ((with_reducible refine Rn.need ?_ ?_);focus (first | assumption | ((repeat' apply And.intro) <;> first | exact trivial | omega | assumption | rfl | (intro e;cases e;done))))))
     refine .cond (fun hn=>?_) (fun hn=>?_)
     ·have hn:nt es i=[]:=qI0 hn
      have hq:qe0 (nt es i) (cnt ms i) (([],some (o,l)):Sq)=([],some (o++[V.osl 1 l],[])):=by rw [hc,hn];rfl
      have hk:=h.next E.toEn (cnt ms i)
      rw [hq] at hk
      have hf:qa0 es ms (d+1) i (([],some (o,l)):Sq)=qa0 es ms d (i+1) ([],some (o++[V.osl 1 l],[])):=by show qa0 es ms d (i+1) (qe0 (nt es i) (cnt ms i) (([],some (o,l)):Sq))=_;rw [hq]
      rw [hf]
      (repeat (first | (with_reducible refine Rn.nI ⟨by omega,by omega⟩ ?_) | (with_reducible refine Rn.nX ⟨by omega,by omega⟩ ?_) | ((with_reducible refine Rn.need ?_ ?_);focus (first | assumption | ((repeat' apply And.intro) <;> first | exact trivial | omega | assumption | rfl | (intro e;cases e;done))))))
      exact .bndS (IH (i+1) 0 0 (v2+1) (o.length+1+1) ([],some (o++[V.osl 1 l],[])) hk rfl (by simp [qx0])) (fun a ha=>ze0 ha)
     ·obtain ⟨c0,k0,hn⟩:=yI0 hn
      rw [hn] at hgN hsz ⊢
      have hq:qe0 (nt es i) (cnt ms i) (([],some (o,l)):Sq)=([],some (o++[V.osl 1 l],c0::k0)):=by rw [hc,hn];rfl
      have hk:=h.next E.toEn (cnt ms i)
      rw [hq] at hk
      have hf:qa0 es ms (d+1) i (([],some (o,l)):Sq)=qa0 es ms d (i+1) ([],some (o++[V.osl 1 l],c0::k0)):=by show qa0 es ms d (i+1) (qe0 (nt es i) (cnt ms i) (([],some (o,l)):Sq))=_;rw [hq]
      rw [hf]
      (repeat (first | (with_reducible refine Rn.nI ⟨by omega,by omega⟩ ?_) | (with_reducible refine Rn.nX ⟨by omega,by omega⟩ ?_) | ((with_reducible refine Rn.need ?_ ?_);focus (first | assumption | ((repeat' apply And.intro) <;> first | exact trivial | omega | assumption | rfl | (intro e;cases e;done))))))
      exact .bndS (IH (i+1) 0 0 (v2+1) (o.length+1+1) ([],some (o++[V.osl 1 l],c0::k0)) hk rfl (by simp [qx0])) (fun a ha=>ze0 ha)
    ·have hc:=hcF (by omega) hb
     (repeat (first | (with_reducible refine Rn.nI ⟨by omega,by omega⟩ ?_) | (with_reducible refine Rn.nX ⟨by omega,by omega⟩ ?_) | ((with_reducible refine Rn.need ?_ ?_);focus (first | assumption | ((repeat' apply And.intro) <;> first | exact trivial | omega | assumption | rfl | (intro e;cases e;done))))))
     refine .jo (.decF (by omega) ?_)
     (repeat (first | (with_reducible refine Rn.nI ⟨by omega,by omega⟩ ?_) | (with_reducible refine Rn.nX ⟨by omega,by omega⟩ ?_) | ((with_reducible refine Rn.need ?_ ?_);focus (first | assumption | ((repeat' apply And.intro) <;> first | exact trivial | omega | assumption | rfl | (intro e;cases e;done))))))
     refine .cond (fun hx=>?_) (fun hx=>?_)
     ·have hx:l=[]:=qI0 hx
      subst hx
      (repeat (first | (with_reducible refine Rn.nI ⟨by omega,by omega⟩ ?_) | (with_reducible refine Rn.nX ⟨by omega,by omega⟩ ?_) | ((with_reducible refine Rn.need ?_ ?_);focus (first | assumption | ((repeat' apply And.intro) <;> first | exact trivial | omega | assumption | rfl | (intro e;cases e;done))))))
      refine .cond (fun hn=>?_) (fun hn=>?_)
      ·have hn:nt es i=[]:=qI0 hn
       have hq:qe0 (nt es i) (cnt ms i) (([],some (o,[])):Sq)=([],some (o,[])):=by rw [hc,hn];rfl
       have hk:=h.next E.toEn (cnt ms i)
       rw [hq] at hk
       have hf:qa0 es ms (d+1) i (([],some (o,[])):Sq)=qa0 es ms d (i+1) ([],some (o,[])):=by show qa0 es ms d (i+1) (qe0 (nt es i) (cnt ms i) (([],some (o,[])):Sq))=_;rw [hq]
       rw [hf]
       (repeat (first | (with_reducible refine Rn.nI ⟨by omega,by omega⟩ ?_) | (with_reducible refine Rn.nX ⟨by omega,by omega⟩ ?_) | ((with_reducible refine Rn.need ?_ ?_);focus (first | assumption | ((repeat' apply And.intro) <;> first | exact trivial | omega | assumption | rfl | (intro e;cases e;done))))))
       exact .bndS (IH (i+1) 0 0 v2 (o.length+1) ([],some (o,[])) hk rfl rfl) (fun a ha=>ze0 ha)
      ·obtain ⟨c0,k0,hn⟩:=yI0 hn
       rw [hn] at hgN hsz ⊢
       have hq:qe0 (nt es i) (cnt ms i) (([],some (o,[])):Sq)=([],some (o,c0::k0)):=by rw [hc,hn];rfl
       have hk:=h.next E.toEn (cnt ms i)
       rw [hq] at hk
       have hf:qa0 es ms (d+1) i (([],some (o,[])):Sq)=qa0 es ms d (i+1) ([],some (o,c0::k0)):=by show qa0 es ms d (i+1) (qe0 (nt es i) (cnt ms i) (([],some (o,[])):Sq))=_;rw [hq]
       rw [hf]
       (repeat (first | (with_reducible refine Rn.nI ⟨by omega,by omega⟩ ?_) | (with_reducible refine Rn.nX ⟨by omega,by omega⟩ ?_) | ((with_reducible refine Rn.need ?_ ?_);focus (first | assumption | ((repeat' apply And.intro) <;> first | exact trivial | omega | assumption | rfl | (intro e;cases e;done))))))
       exact .bndS (IH (i+1) 0 0 v2 (o.length+1) ([],some (o,c0::k0)) hk rfl rfl) (fun a ha=>ze0 ha)
     ·have hx:l≠[]:=yy0 hx
      (repeat (first | (with_reducible refine Rn.nI ⟨by omega,by omega⟩ ?_) | (with_reducible refine Rn.nX ⟨by omega,by omega⟩ ?_) | ((with_reducible refine Rn.need ?_ ?_);focus (first | assumption | ((repeat' apply And.intro) <;> first | exact trivial | omega | assumption | rfl | (intro e;cases e;done))))))
      refine .cond (fun hn=>?_) (fun hn=>?_)
      ·have hn:nt es i=[]:=qI0 hn
       have hq:qe0 (nt es i) (cnt ms i) (([],some (o,l)):Sq)=([],some (o,l)):=by rw [hc,hn];show (_,some (o,l++[]))=_;rw [List.append_nil]
       have hk:=h.next E.toEn (cnt ms i)
       rw [hq] at hk
       have hf:qa0 es ms (d+1) i (([],some (o,l)):Sq)=qa0 es ms d (i+1) ([],some (o,l)):=by show qa0 es ms d (i+1) (qe0 (nt es i) (cnt ms i) (([],some (o,l)):Sq))=_;rw [hq]
       rw [hf]
       (repeat (first | (with_reducible refine Rn.nI ⟨by omega,by omega⟩ ?_) | (with_reducible refine Rn.nX ⟨by omega,by omega⟩ ?_) | ((with_reducible refine Rn.need ?_ ?_);focus (first | assumption | ((repeat' apply And.intro) <;> first | exact trivial | omega | assumption | rfl | (intro e;cases e;done))))))
       exact .bndS (IH (i+1) 0 0 v2 (o.length+1) ([],some (o,l)) hk rfl rfl) (fun a ha=>ze0 ha)
      ·obtain ⟨c0,k0,hn⟩:=yI0 hn
       rw [hn] at hgN hsz hgl hla hlb ⊢
       have hq:qe0 (nt es i) (cnt ms i) (([],some (o,l)):Sq)=([],some (o,l++c0::k0)):=by rw [hc,hn];rfl
       have hk:=h.next E.toEn (cnt ms i)
       rw [hq] at hk
       have hf:qa0 es ms (d+1) i (([],some (o,l)):Sq)=qa0 es ms d (i+1) ([],some (o,l++c0::k0)):=by show qa0 es ms d (i+1) (qe0 (nt es i) (cnt ms i) (([],some (o,l)):Sq))=_;rw [hq]
       rw [hf]
       (repeat (first | (with_reducible refine Rn.nI ⟨by omega,by omega⟩ ?_) | (with_reducible refine Rn.nX ⟨by omega,by omega⟩ ?_) | ((with_reducible refine Rn.need ?_ ?_);focus (first | assumption | ((repeat' apply And.intro) <;> first | exact trivial | omega | assumption | rfl | (intro e;cases e;done))))))
       exact .bndS (IH (i+1) 0 0 v2 (o.length+1) ([],some (o,l++c0::k0)) hk rfl rfl) (fun a ha=>ze0 ha)
   | cons a b =>
    refine .of (fun m=>zA1 (XS m) _ none some es ms i v1 (a::b).length (a::b) v2 (o.length+1) o l) ?_
    simp only [Nat.add_eq,Nat.succ_eq_add_one,hN,e2]
    refine .decT (by omega) (.joinC (c:=cnt ms i=true) (fun hc=>?_) (fun j hj=>.dec (fun hm=>hj (hcT (by omega))) (fun hm=>.nX ⟨by omega,by omega⟩ (.need (E.ldm i (by omega)) (.cond (fun hb=>?_) (fun hb=>hj (hcB hb)))))))
    ·(repeat (first | (with_reducible refine Rn.nI ⟨by omega,by omega⟩ ?_) | (with_reducible refine Rn.nX ⟨by omega,by omega⟩ ?_) | ((with_reducible refine Rn.need ?_ ?_);focus (first | assumption | ((repeat' apply And.intro) <;> first | exact trivial | omega | assumption | rfl | (intro e;cases e;done))))))
     refine .decF (by omega) ?_
     (repeat (first | (with_reducible refine Rn.nI ⟨by omega,by omega⟩ ?_) | (with_reducible refine Rn.nX ⟨by omega,by omega⟩ ?_) | ((with_reducible refine Rn.need ?_ ?_);focus (first | assumption | ((repeat' apply And.intro) <;> first | exact trivial | omega | assumption | rfl | (intro e;cases e;done))))))
     refine .cond (fun hn=>?_) (fun hn=>?_)
     ·have hn:nt es i=[]:=qI0 hn
      have hq:qe0 (nt es i) (cnt ms i) ((a::b,some (o,l)):Sq)=(a::b,some (o++[V.osl 1 l],[])):=by rw [hc,hn];rfl
      have hk:=h.next E.toEn (cnt ms i)
      rw [hq] at hk
      have hf:qa0 es ms (d+1) i ((a::b,some (o,l)):Sq)=qa0 es ms d (i+1) (a::b,some (o++[V.osl 1 l],[])):=by show qa0 es ms d (i+1) (qe0 (nt es i) (cnt ms i) ((a::b,some (o,l)):Sq))=_;rw [hq]
      rw [hf]
      (repeat (first | (with_reducible refine Rn.nI ⟨by omega,by omega⟩ ?_) | (with_reducible refine Rn.nX ⟨by omega,by omega⟩ ?_) | ((with_reducible refine Rn.need ?_ ?_);focus (first | assumption | ((repeat' apply And.intro) <;> first | exact trivial | omega | assumption | rfl | (intro e;cases e;done))))))
      exact .bndS (IH (i+1) v1 (a::b).length (v2+1) (o.length+1+1) (a::b,some (o++[V.osl 1 l],[])) hk rfl (by simp [qx0])) (fun a ha=>ze0 ha)
     ·obtain ⟨c0,k0,hn⟩:=yI0 hn
      rw [hn] at hgN hsz ⊢
      have hq:qe0 (nt es i) (cnt ms i) ((a::b,some (o,l)):Sq)=(a::b,some (o++[V.osl 1 l],c0::k0)):=by rw [hc,hn];rfl
      have hk:=h.next E.toEn (cnt ms i)
      rw [hq] at hk
      have hf:qa0 es ms (d+1) i ((a::b,some (o,l)):Sq)=qa0 es ms d (i+1) (a::b,some (o++[V.osl 1 l],c0::k0)):=by show qa0 es ms d (i+1) (qe0 (nt es i) (cnt ms i) ((a::b,some (o,l)):Sq))=_;rw [hq]
      rw [hf]
      (repeat (first | (with_reducible refine Rn.nI ⟨by omega,by omega⟩ ?_) | (with_reducible refine Rn.nX ⟨by omega,by omega⟩ ?_) | ((with_reducible refine Rn.need ?_ ?_);focus (first | assumption | ((repeat' apply And.intro) <;> first | exact trivial | omega | assumption | rfl | (intro e;cases e;done))))))
      exact .bndS (IH (i+1) v1 (a::b).length (v2+1) (o.length+1+1) (a::b,some (o++[V.osl 1 l],c0::k0)) hk rfl (by simp [qx0])) (fun a ha=>ze0 ha)
    ·have hc:=hcF (by omega) hb
     (repeat (first | (with_reducible refine Rn.nI ⟨by omega,by omega⟩ ?_) | (with_reducible refine Rn.nX ⟨by omega,by omega⟩ ?_) | ((with_reducible refine Rn.need ?_ ?_);focus (first | assumption | ((repeat' apply And.intro) <;> first | exact trivial | omega | assumption | rfl | (intro e;cases e;done))))))
     refine .jo (.decF (by omega) ?_)
     (repeat (first | (with_reducible refine Rn.nI ⟨by omega,by omega⟩ ?_) | (with_reducible refine Rn.nX ⟨by omega,by omega⟩ ?_) | ((with_reducible refine Rn.need ?_ ?_);focus (first | assumption | ((repeat' apply And.intro) <;> first | exact trivial | omega | assumption | rfl | (intro e;cases e;done))))))
     refine .cond (fun hx=>?_) (fun hx=>?_)
     ·have hx:l=[]:=qI0 hx
      subst hx
      (repeat (first | (with_reducible refine Rn.nI ⟨by omega,by omega⟩ ?_) | (with_reducible refine Rn.nX ⟨by omega,by omega⟩ ?_) | ((with_reducible refine Rn.need ?_ ?_);focus (first | assumption | ((repeat' apply And.intro) <;> first | exact trivial | omega | assumption | rfl | (intro e;cases e;done))))))
      refine .cond (fun hn=>?_) (fun hn=>?_)
      ·have hn:nt es i=[]:=qI0 hn
       have hq:qe0 (nt es i) (cnt ms i) ((a::b,some (o,[])):Sq)=(a::b,some (o,[])):=by rw [hc,hn];rfl
       have hk:=h.next E.toEn (cnt ms i)
       rw [hq] at hk
       have hf:qa0 es ms (d+1) i ((a::b,some (o,[])):Sq)=qa0 es ms d (i+1) (a::b,some (o,[])):=by show qa0 es ms d (i+1) (qe0 (nt es i) (cnt ms i) ((a::b,some (o,[])):Sq))=_;rw [hq]
       rw [hf]
       (repeat (first | (with_reducible refine Rn.nI ⟨by omega,by omega⟩ ?_) | (with_reducible refine Rn.nX ⟨by omega,by omega⟩ ?_) | ((with_reducible refine Rn.need ?_ ?_);focus (first | assumption | ((repeat' apply And.intro) <;> first | exact trivial | omega | assumption | rfl | (intro e;cases e;done))))))
       exact .bndS (IH (i+1) v1 (a::b).length v2 (o.length+1) (a::b,some (o,[])) hk rfl rfl) (fun a ha=>ze0 ha)
      ·obtain ⟨c0,k0,hn⟩:=yI0 hn
       rw [hn] at hgN hsz ⊢
       have hq:qe0 (nt es i) (cnt ms i) ((a::b,some (o,[])):Sq)=(a::b,some (o,c0::k0)):=by rw [hc,hn];rfl
       have hk:=h.next E.toEn (cnt ms i)
       rw [hq] at hk
       have hf:qa0 es ms (d+1) i ((a::b,some (o,[])):Sq)=qa0 es ms d (i+1) (a::b,some (o,c0::k0)):=by show qa0 es ms d (i+1) (qe0 (nt es i) (cnt ms i) ((a::b,some (o,[])):Sq))=_;rw [hq]
       rw [hf]
       (repeat (first | (with_reducible refine Rn.nI ⟨by omega,by omega⟩ ?_) | (with_reducible refine Rn.nX ⟨by omega,by omega⟩ ?_) | ((with_reducible refine Rn.need ?_ ?_);focus (first | assumption | ((repeat' apply And.intro) <;> first | exact trivial | omega | assumption | rfl | (intro e;cases e;done))))))
       exact .bndS (IH (i+1) v1 (a::b).length v2 (o.length+1) (a::b,some (o,c0::k0)) hk rfl rfl) (fun a ha=>ze0 ha)
     ·have hx:l≠[]:=yy0 hx
      (repeat (first | (with_reducible refine Rn.nI ⟨by omega,by omega⟩ ?_) | (with_reducible refine Rn.nX ⟨by omega,by omega⟩ ?_) | ((with_reducible refine Rn.need ?_ ?_);focus (first | assumption | ((repeat' apply And.intro) <;> first | exact trivial | omega | assumption | rfl | (intro e;cases e;done))))))
      refine .cond (fun hn=>?_) (fun hn=>?_)
      ·have hn:nt es i=[]:=qI0 hn
       have hq:qe0 (nt es i) (cnt ms i) ((a::b,some (o,l)):Sq)=(a::b,some (o,l)):=by rw [hc,hn];show (_,some (o,l++[]))=_;rw [List.append_nil]
       have hk:=h.next E.toEn (cnt ms i)
       rw [hq] at hk
       have hf:qa0 es ms (d+1) i ((a::b,some (o,l)):Sq)=qa0 es ms d (i+1) (a::b,some (o,l)):=by show qa0 es ms d (i+1) (qe0 (nt es i) (cnt ms i) ((a::b,some (o,l)):Sq))=_;rw [hq]
       rw [hf]
       (repeat (first | (with_reducible refine Rn.nI ⟨by omega,by omega⟩ ?_) | (with_reducible refine Rn.nX ⟨by omega,by omega⟩ ?_) | ((with_reducible refine Rn.need ?_ ?_);focus (first | assumption | ((repeat' apply And.intro) <;> first | exact trivial | omega | assumption | rfl | (intro e;cases e;done))))))
       exact .bndS (IH (i+1) v1 (a::b).length v2 (o.length+1) (a::b,some (o,l)) hk rfl rfl) (fun a ha=>ze0 ha)
      ·obtain ⟨c0,k0,hn⟩:=yI0 hn
       rw [hn] at hgN hsz hgl hla hlb ⊢
       have hq:qe0 (nt es i) (cnt ms i) ((a::b,some (o,l)):Sq)=(a::b,some (o,l++c0::k0)):=by rw [hc,hn];rfl
       have hk:=h.next E.toEn (cnt ms i)
       rw [hq] at hk
       have hf:qa0 es ms (d+1) i ((a::b,some (o,l)):Sq)=qa0 es ms d (i+1) (a::b,some (o,l++c0::k0)):=by show qa0 es ms d (i+1) (qe0 (nt es i) (cnt ms i) ((a::b,some (o,l)):Sq))=_;rw [hq]
       rw [hf]
       (repeat (first | (with_reducible refine Rn.nI ⟨by omega,by omega⟩ ?_) | (with_reducible refine Rn.nX ⟨by omega,by omega⟩ ?_) | ((with_reducible refine Rn.need ?_ ?_);focus (first | assumption | ((repeat' apply And.intro) <;> first | exact trivial | omega | assumption | rfl | (intro e;cases e;done))))))
       exact .bndS (IH (i+1) v1 (a::b).length v2 (o.length+1) (a::b,some (o,l++c0::k0)) hk rfl rfl) (fun a ha=>ze0 ha)
theorem qF2 {es ms:List V} (E:Ei es ms) (hs:szQ es es.length 0≤68719476736):OkS (fun X=>X.SS (.call 9 [.osl 4 es,.osl 1 ms] Heap.empty)) (fun a=>a=spQ es ms):=by
 have hl:=sr_ok E es.length 0 0 0 0 0 ([],none) ⟨by omega,by simpa [qG0] using hs,Nat.le_refl _,GndR.nil,fun _ _ e=>by cases e⟩ rfl rfl
 refine OkS.tk (R:=rSS) (Q:=qN) (L:=rdSS) (fun _=>rfl) (fun _=>rfl) (Tk.byS (.of (fun m=>YM1 (XS m) _ none some es ms) (.bndS hl fun a ha=>?_)))
 have hsp:spQ es ms=je0 (qa0 es ms es.length 0 ([],none)):=rfl
 rw [hsp]
 clear hl hsp
 generalize qa0 es ms es.length 0 ([],none)=q at ha ⊢
 obtain ⟨ld,x⟩:=q
 obtain ⟨h1,h2,h3,h4,h5,h6,g1,g2⟩:=ha
 have hld:a.u=false→ld=[]:=fun e=>qI0 (by
  have h3:a.u=!qb0 ld:=h3
  rw [e] at h3
  cases hq:qb0 ld with
  | true=>rfl
  | false=>rw [hq] at h3;cases h3)
 have hsn:a.s=false→x=none:=fun e=>by
  cases x with
  | none=>rfl
  | some p=>exact nomatch (h5.symm.trans e)
 have hss:a.s=true→∃ o l,x=some (o,l):=fun e=>by
  cases x with
  | none=>exact nomatch (h5.symm.trans e)
  | some p=>exact ⟨p.1,p.2,rfl⟩
 refine .cond (fun hu=>.cond (fun hs=>?_) (fun hs=>?_)) (fun hu=>.cond (fun hs=>?_) (fun hs=>?_))
 ·obtain ⟨o,l,rfl⟩:=hss hs
  obtain ⟨p1,p2⟩:=h4 hu
  obtain ⟨k1,k2,k3⟩:=h6 o l rfl
  rw [p1,p2,k1,k2,k3]
  exact .need ⟨rfl,rfl,rfl,g1⟩ (.need ⟨rfl,rfl,by simp,(g2 o l rfl).app (jk0 l)⟩ (.ret ⟨(ld,o++[V.osl 1 l]),rfl,rfl⟩))
 ·have:=hsn hs;subst this
  obtain ⟨p1,p2⟩:=h4 hu
  rw [p1,p2]
  exact .need ⟨rfl,rfl,rfl,g1⟩ (.ret ⟨(ld,[]),rfl,rfl⟩)
 ·obtain ⟨o,l,rfl⟩:=hss hs
  have:=hld hu;subst this
  obtain ⟨k1,k2,k3⟩:=h6 o l rfl
  rw [k1,k2,k3]
  exact .need ⟨rfl,rfl,by simp,(g2 o l rfl).app (jk0 l)⟩ (.ret ⟨([],o++[V.osl 1 l]),rfl,rfl⟩)
 ·have:=hsn hs;subst this
  have:=hld hu;subst this
  exact .ret ⟨([],[]),rfl,rfl⟩
def Strs (l:List V):Prop:=∀ x∈l,∃ s,x=V.str s
theorem sm_of {t:Task} (h:∃ r,(∃ a,r=rSm (frO t) a)∧Tk t r):OkS (fun X=>X.Sm t) (fun _=>True):=by
 obtain ⟨r,⟨a,e⟩,hT⟩:=h
 obtain ⟨a',h1,h2⟩:=Zy0 (R:=fun a:List V×List V=>rSm (frO t) a) (Q:=qN) a
 exact ⟨a',trivial,hT.mono fun n h=>by show exR _ _ (rn PP EP CP n t)=_;rw [show rn PP EP CP n t=_ from h,e];exact h2⟩
theorem lw_of {t:Task} (h:∃ r,(∃ a,r=rLw (frO t) a)∧Tk t r):OkS (fun X=>X.Lw t) (fun _=>True):=by
 obtain ⟨r,⟨a,e⟩,hT⟩:=h
 obtain ⟨a',h1,h2⟩:=Zy0 (R:=fun a:Unit=>rLw (frO t) a) (Q:=qN) a
 exact ⟨a',trivial,hT.mono fun n h=>by show exR _ _ (rn PP EP CP n t)=_;rw [show rn PP EP CP n t=_ from h,e];exact h2⟩
theorem qS2 {l:List V} (hs:Strs l) (hl:l.length≤1000000000000) (d:Nat):∀ i:Nat,i+d=l.length→OkS (fun X=>X.Sm (.code (.loop (lpB PP 10 0)) ((base 10 26).on [(0,.osl 1 l),(1,.osl 1 l),(5,.int .i64 (i:Int))]) Heap.empty)) (fun _=>True):=by
 induction d with
 | zero =>
  intro i hi
  exact sm_of (Tk.byS (.of (fun m=>zB1 (XS m) _ none some l l i) (.decF (by omega) (.ret ⟨(l,l),rfl⟩))))
 | succ d IH =>
  intro i hi
  obtain ⟨s,h⟩:=hs _ (List.getElem_mem (show i<l.length by omega))
  have hx:=(Xn0 (w:=s) (es:=l) (i:=i) (by rw [List.getElem?_eq_getElem (by omega),h])).1
  exact sm_of (Tk.byS (.of (fun m=>zB1 (XS m) _ none some l l i) (.decT (by omega) (.nX ⟨by omega,by omega⟩ (.need hx (.nX ⟨by omega,by omega⟩ (.need hx (.ndec (fun h=>absurd rfl h) (fun _=>.nI ⟨by omega,by omega⟩ (.bndS (IH (i+1) (by omega)) fun a _=>.ret ⟨a,rfl⟩))))))))))
theorem Qm1 {l:List V} (hs:Strs l) (hl:l.length≤1000000000000):OkS (fun X=>X.O (.call 10 [.osl 1 l,.osl 1 l] Heap.empty)) (fun b=>b=true) :=
 .tk (R:=rO) (Q:=qN) (L:=lO) (fun _=>rfl) (fun _=>rfl) (Tk.byS (.of (fun m=>YN1 (XS m) _ none some l l) (.ndec (fun h=>absurd rfl h) (fun _=>.bndS (qS2 hs hl l.length 0 (by omega)) fun a _=>.ret ⟨true,rfl,rfl⟩))))
theorem ldX_x {es:List V} {i:Nat} {l:List V} (h:es[i]?=some (.osl 1 l)):ldX PP 28 1 es (i*1):=by
 have hg:gE 1 es (i*1) 0=l:=(ldX_l h).2
 have he:qO0 PP 28 1 es (i*1)=some (.osl 1 (gE 1 es (i*1) 0)):=by kernel_rfl
 have hl:load PP Heap.empty 28 (.gptr 1 es (i*1))=some (.osl 1 l):=by
  change zx0 PP 28 (qE0 1 es (i*1) 1)=_
  rw [Zq0 h]
  first | kernel_rfl | rfl
 unfold ldX;rw [he,hg,hl]
theorem XX1 {xs:List V} (hx:∀ x∈xs,∃ l,x=V.osl 1 l∧Strs l∧l.length≤1000000000000) (hl:xs.length≤1000000000) (d:Nat):∀ i:Nat,i+d=xs.length→OkS (fun X=>X.Lw (.code (.loop (lpB PP 3 0)) ((base 3 70).on [(13,.osl 1 xs),(15,.osl 1 xs),(16,.int .i64 (i:Int))]) Heap.empty)) (fun _=>True):=by
 induction d with
 | zero =>
  intro i hi
  exact lw_of (Tk.byS (.of (fun m=>zC1 (XS m) _ none some xs xs i) (.decF (by omega) (.ret ⟨(),rfl⟩))))
 | succ d IH =>
  intro i hi
  obtain ⟨l,h,h1,h2⟩:=hx _ (List.getElem_mem (show i<xs.length by omega))
  have hg:xs[i]?=some (V.osl 1 l):=by rw [List.getElem?_eq_getElem (by omega),h]
  have hld:=ldX_x hg
  have he:gE 1 xs (Int.toNat (i:Int)*1) 0=l:=(ldX_l hg).2
  refine lw_of (Tk.byS (.of (fun m=>zC1 (XS m) _ none some xs xs i) ?_))
  simp only [he]
  exact .decT (by omega) (.nX ⟨by omega,by omega⟩ (.need hld (.nX ⟨by omega,by omega⟩ (.need hld (.bndS (Qm1 h1 h2) fun b hb=>by
   subst hb
   exact .ct (.nI ⟨by omega,by omega⟩ (.bndS (IH (i+1) (by omega)) fun a _=>.ret ⟨a,rfl⟩)))))))
/-- subeditorlaw15.Source. -/
theorem u8_g {ds:List UInt8} {i:Nat} (h:i<ds.length):ldC PP 5 1 (ds.map bV) (i*1)∧0≤gI 1 (ds.map bV) (i*1) 0∧gI 1 (ds.map bV) (i*1) 0≤255:=by
 obtain ⟨_,h1,h2⟩:=ldX_b (es:=ds.map bV) (i:=i) (z:=(ds[i].toNat:Int)) (by rw [List.getElem?_map,List.getElem?_eq_getElem h];rfl)
 have:=UInt8.toNat_lt ds[i]
 rw [h2]
 exact ⟨h1,by omega,by omega⟩
theorem s5_of {t:Task} {ds:List V} {m:Nat} (h:∃ r,(∃ a:List V×List UInt8,r=rS5 (base 6 90) a∧a.1=ds∧a.2.length≤m)∧Tk t r) (ht:frO t=(frO t)∧∀ a,rS5 (frO t) a=rS5 (base 6 90) a):OkS (fun X=>X.S5 t) (fun a=>a.1=ds∧a.2.length≤m):=by
 obtain ⟨r,⟨a,e,hq⟩,hT⟩:=h
 exact OkS.tk (R:=rS5 (frO t)) (Q:=qN) (L:=fun r=>match r with
  | .code _ fr _=>(qK0 (T.get undef fr.tm 1),asStr (T.get undef fr.tm 10))
  | _=>([],[])) (fun _=>rfl) (fun a=>by rw [ht.2];kernel_rfl) ⟨r,⟨a,by rw [ht.2];exact e,hq⟩,hT⟩
theorem zy2 {ds:List UInt8} {ts:List (Int×List UInt8)} {l:List V} {c:Nat} (hts:ts.length≤65536) (hw:∀ t,t∈ts→t.2≠[]∧t.2.length≤65536) (hl:l.length=6) (hL:∀ i<l.length,ldC PP 9 1 l (i*1)∧(gS 1 l (i*1) 0).length≤100) (d:Nat):∀ (i:Nat) (w:List UInt8),i+d=ts.length→w.length≤i*65700→OkS (fun X=>X.S5 (.code (.loop (lpB PP 6 0)) ((base 6 90).on [(1,.osl 1 (ds.map bV)),(6,.osl 2 (ts.map qu0)),(9,.gsl 1 l (some c)),(10,.str w),(11,.int .i64 (i:Int))]) Heap.empty)) (fun a=>a.1=ds.map bV∧a.2.length≤5000000000):=by
 have hdl:(ds.map bV).length=ds.length:=List.length_map ..
 have htl:(ts.map qu0).length=ts.length:=List.length_map ..
 induction d with
 | zero =>
  intro i w hi h1
  exact s5_of (Tk.byS (.of (fun m=>zD1 (XS m) _ none some (ds.map bV) (ts.map qu0) l c w i) (.decF (by omega) (.ret ⟨(_,_),rfl,rfl,by show w.length≤_;omega⟩)))) ⟨rfl,fun _=>rfl⟩
 | succ d IH =>
  intro i w hi h1
  have hlt:i<ts.length:=by omega
  have hg:(ts.map qu0)[i]?=some (qu0 ts[i]):=by rw [List.getElem?_map,List.getElem?_eq_getElem hlt];rfl
  obtain ⟨p1,p2,p3⟩:=Qt0 hg
  have k1:ldC PP 9 2 (ts.map qu0) (Nat.add (Int.toNat (i:Int)*2) 1):=Js0 hg
  have k2:ldC PP 3 2 (ts.map qu0) (Int.toNat (i:Int)*2):=Jr0 hg
  have e3:gS 2 (ts.map qu0) (Nat.add (Int.toNat (i:Int)*2) 1) 0=ts[i].2:=p3
  have hw2:=(hw ts[i] (List.getElem_mem hlt)).2
  refine s5_of (Tk.byS (.of (fun m=>zD1 (XS m) _ none some (ds.map bV) (ts.map qu0) l c w i) ?_)) ⟨rfl,fun _=>rfl⟩
  simp only [e3]
  have J:∀ w':List UInt8,w'.length≤(i+1)*65700→OkS (fun X=>X.S5 (.code (.loop (lpB PP 6 0)) ((base 6 90).on [(1,.osl 1 (ds.map bV)),(6,.osl 2 (ts.map qu0)),(9,.gsl 1 l (some c)),(10,.str w'),(11,.int .i64 ((i+1:Nat):Int))]) Heap.empty)) (fun a=>a.1=ds.map bV∧a.2.length≤5000000000):=fun w' h=>IH (i+1) w' (by omega) h
  have ha:(w++ts[i].2).length=w.length+ts[i].2.length:=List.length_append
  have J0:=J (w++ts[i].2) (by omega)
  refine .decT (by omega) (.nX ⟨by omega,by omega⟩ (.need k1 (.need (by omega) (.dec (fun hd=>?_) (fun _=>.nI ⟨by omega,by omega⟩ (.bndS J0 fun a ha=>.ret ⟨a,rfl,ha⟩))))))
  have hdi:i<ds.length:=by omega
  obtain ⟨b1,b2,b3⟩:=u8_g hdi
  have c1:ldC PP 5 1 (ds.map bV) (Int.toNat (i:Int)*1):=b1
  have c2:0≤gI 1 (ds.map bV) (Int.toNat (i:Int)*1) 0:=b2
  have c3:gI 1 (ds.map bV) (Int.toNat (i:Int)*1) 0≤255:=b3
  generalize gI 1 (ds.map bV) (Int.toNat (i:Int)*1) 0=z at c2 c3 ⊢
  refine .nX ⟨by omega,by omega⟩ (.need k2 (.dec (fun _=>?_) (fun _=>.nI ⟨by omega,by omega⟩ (.bndS J0 fun a ha=>.ret ⟨a,rfl,ha⟩))))
  refine .nX ⟨by omega,by omega⟩ (.need c1 (.need ⟨by omega,by omega⟩ (.dec (fun _=>?_) (fun _=>.nI ⟨by omega,by omega⟩ (.bndS J0 fun a ha=>.ret ⟨a,rfl,ha⟩)))))
  have hz:Int.toNat (z/3%6)<l.length:=by omega
  obtain ⟨q1,q2⟩:=hL _ hz
  have hb:(w++ts[i].2++gS 1 l (Int.toNat (z/3%6)*1) 0).length=(w++ts[i].2).length+(gS 1 l (Int.toNat (z/3%6)*1) 0).length:=List.length_append
  exact .nX ⟨by omega,by omega⟩ (.need c1 (.need ⟨by omega,by omega,by omega,by omega⟩ (.nI ⟨by omega,by omega⟩ (.need ⟨by omega,by omega⟩ (.nX ⟨by omega,by omega⟩ (.need q1 (.need (by omega) (.nI ⟨by omega,by omega⟩ (.bndS (J _ (by omega)) fun a ha=>.ret ⟨a,rfl,ha⟩)))))))))
theorem lit_g {ws:List (List UInt8)} {i:Nat} (h:i<(ws.map V.str).length) (hw:∀ w,w∈ws→w.length≤100):ldC PP 9 1 (ws.map V.str) (i*1)∧(gS 1 (ws.map V.str) (i*1) 0).length≤100:=by
 rw [List.length_map] at h
 obtain ⟨_,h1,h2⟩:=Xn0 (es:=ws.map V.str) (i:=i) (w:=ws[i]) (by rw [List.getElem?_map,List.getElem?_eq_getElem h];rfl)
 exact ⟨h1,by rw [h2];exact hw _ (List.getElem_mem h)⟩
def gaps:List (List UInt8):=[[32],[10],[32,35,32,120,10],[10,35,32,121,92,10,32,122,10],[35,13,10],[32]]
def ends7:List (List UInt8):=[[],[10],[32,35,32,101,110,100],[32,35,32,101,110,100,10],[32,35,92],[32,35,32,101,92,13],[126]]
theorem src_ok (c d:List UInt8) (hc:(c.length:Int)≤9223372036854775807) (hd:(d.length:Int)≤9223372036854775807):OkS (fun X=>X.W (.call 6 [.osl 1 (c.map bV),.osl 1 (d.map bV)] Heap.empty)) fun w=>w.length≤6000000000:=by
 refine .tk (R:=rW) (Q:=qN) (L:=lW) (fun _=>rfl) (fun _=>rfl) (Tk.byS (.of (fun m=>YP1 (XS m) _ none some (c.map bV) (d.map bV)) ?_))
 refine .bndS (zg2 c hc).e (fun a ⟨c',ha,hc'⟩=>?_)
 subst ha
 refine .bndS (zt2 c' (by omega)).w (fun s hs=>?_)
 refine .bndS (QL1 s (by omega)).tt (fun ⟨t1,t2,t3⟩ ⟨ts,ht,h1,h2⟩=>?_)
 have ht:t1=ts.map qu0:=ht
 subst ht
 refine .ndec (fun _=>.ret ⟨s,rfl,by omega⟩) (fun _=>?_)
 have hdl:(d.map bV).length=d.length:=List.length_map ..
 refine .bndS (zy2 (ds:=d) (l:=gaps.map V.str) (c:=6) h1 h2 rfl (fun i hi=>lit_g hi (by decide)) ts.length 0 [] (by omega) (by simp)) (fun ⟨ds,w⟩ ⟨e1,e2⟩=>?_)
 have e1:ds=d.map bV:=e1
 subst e1
 have e2:w.length≤5000000000:=e2
 have he:∀ i,i<7→ldC PP 9 1 (ends7.map V.str) (i*1)∧(gS 1 (ends7.map V.str) (i*1) 0).length≤100:=fun i hi=>lit_g (show i<(ends7.map V.str).length from hi) (by decide)
 refine .dec (fun h0=>?_) (fun _=>?_)
 ·have h0:(0:Int)<(d.map bV).length:=h0
  have hlt:d.length-1<d.length:=by omega
  obtain ⟨b1,b2,b3⟩:=u8_g hlt
  have hn:Int.toNat (((d.map bV).length:Int)-1)=d.length-1:=by omega
  show Rn (fun n=>nI none ((((d.map bV).length:Nat):Int)-1) _) _
  simp only [hn]
  generalize gI 1 (d.map bV) ((d.length-1)*1) 0=z at b2 b3 ⊢
  obtain ⟨q1,q2⟩:=he (Int.toNat (z%7)) (by omega)
  exact .nI ⟨by omega,by omega⟩ (.nX ⟨by omega,by omega⟩ (.need b1 (.need ⟨b2,by omega⟩ (.nI ⟨by omega,by omega⟩ (.need ⟨by omega,by omega⟩ (.need q1 (.need (Nat.le_trans (Nat.add_le_add_left q2 w.length) (by omega)) (.ret ⟨_,rfl,by rw [List.length_append];exact Nat.le_trans (Nat.add_le_add_left q2 w.length) (by omega)⟩))))))))
 ·exact .need ⟨by omega,by omega⟩ (.need (he 0 (by omega)).1 (.need (show w.length+0≤_ by omega) (.ret ⟨_,rfl,by rw [List.length_append];show w.length+0≤_;omega⟩)))
theorem its_sz {its:List It} (hb:∀ x,x∈its→x.ns.length≤65536) (d:Nat):∀ n,n+d=its.length→szQ (its.map itV) d n≤d*65536:=by
 induction d with
 | zero=>intro n _;exact Nat.zero_le _
 | succ d IH =>
  intro n hn
  have hlt:n<its.length:=by omega
  have hg:(its.map itV)[n]?=some (itV its[n]):=by rw [List.getElem?_map,List.getElem?_eq_getElem hlt];rfl
  have h1:nt (its.map itV) n=its[n].ns:=(it_g hg).2.2.2.1
  have h2:=IH (n+1) (by omega)
  have h3:=hb _ (List.getElem_mem hlt)
  show (nt (its.map itV) n).length+szQ (its.map itV) d (n+1)≤_
  rw [h1];omega
theorem XP1 {its:List It} (hb:∀ x,x∈its→∃ ws:List (List UInt8),x.ns=ws.map V.str) (d:Nat):∀ n,n+d=its.length→Strs (Qw0 (its.map itV) d n):=by
 induction d with
 | zero=>intro n _ x hx;cases hx
 | succ d IH =>
  intro n hn x hx
  have hlt:n<its.length:=by omega
  have hg:(its.map itV)[n]?=some (itV its[n]):=by rw [List.getElem?_map,List.getElem?_eq_getElem hlt];rfl
  have h1:nt (its.map itV) n=its[n].ns:=(it_g hg).2.2.2.1
  rcases List.mem_append.1 hx with hx | hx
  ·obtain ⟨ws,hws⟩:=hb _ (List.getElem_mem hlt)
   rw [h1,hws] at hx
   obtain ⟨s,_,rfl⟩:=List.mem_map.1 hx
   exact ⟨s,rfl⟩
  ·exact IH (n+1) (by omega) x hx
theorem Ka1 {xs:List V} {x:V} (h:x∈xs):(qK0 x).length≤(xs.flatMap qK0).length:=by
 induction xs with
 | nil=>cases h
 | cons y ys IH =>
  rw [List.flatMap_cons,List.length_append]
  rcases List.mem_cons.1 h with rfl | h
  ·omega
  ·have:=IH h;omega
theorem spr_ok (c d:List UInt8) (ms:List Bool) (hc:(c.length:Int)≤9223372036854775807) (hd:(d.length:Int)≤9223372036854775807):∃ r,r=Res.ret (.bool true) Heap.empty∧Tk (.call 3 [.osl 1 (c.map bV),.osl 1 (d.map bV),.osl 1 (ms.map V.bool)] Heap.empty) r:=by
 refine Tk.byS (.of (fun m=>YO1 (XS m) _ none some (c.map bV) (d.map bV) (ms.map V.bool)) ?_)
 refine .bndS (src_ok c d hc hd) (fun s hs=>?_)
 refine .bndS (QL1 s (by omega)).tt (fun ⟨t1,t2,t3⟩ ht=>?_)
 refine .bndS (XO1 t1 ht).it (fun ⟨u,xs⟩ ⟨n,its,hx,hn,hl,hb⟩=>?_)
 have hx:xs=its.map itV:=hx
 subst hx
 have hil:(its.map itV).length=its.length:=List.length_map ..
 have hns:∀ x,x∈its→∃ ws:List (List UInt8),x.ns=ws.map V.str:=fun x hx=>by obtain ⟨_,_,ws,h,_⟩:=hb x hx;exact ⟨ws,h⟩
 have hnl:∀ x,x∈its→x.ns.length≤65536:=fun x hx=>by obtain ⟨_,_,ws,h,h2⟩:=hb x hx;rw [h,List.length_map];omega
 have E:Ei (its.map itV) (ms.map V.bool):=by
  have ig:∀ n (h:n<its.length),(its.map itV)[n]?=some (itV its[n]):=fun n h=>by rw [List.getElem?_map,List.getElem?_eq_getElem h];rfl
  have bg:∀ n (h:n<ms.length),(ms.map V.bool)[n]?=some (.bool ms[n]):=fun n h=>by rw [List.getElem?_map,List.getElem?_eq_getElem h];rfl
  refine ⟨⟨by omega,fun n hn=>?_,fun n hn=>?_,fun n hn=>?_⟩,fun n hn=>?_,fun n hn=>?_⟩
  ·exact (it_ld (ig n (by omega))).2.1
  ·rw [List.length_map] at hn;exact (ldX_o (bg n hn)).1
  ·rw [show nt (its.map itV) n=(its[n]'(by omega)).ns from (it_g (ig n (by omega))).2.2.2.1]
   obtain ⟨ws,h⟩:=hns _ (List.getElem_mem (show n<its.length by omega))
   rw [h];exact jX0 _
  ·exact it_n (ig n (by omega))
  ·rw [List.length_map] at hn;exact (ldX_o (bg n hn)).2.1
 have hsz:=its_sz hnl its.length 0 (by omega)
 have hsq:szQ (its.map itV) (its.map itV).length 0≤68719476736:=by rw [hil];omega
 have hall:Strs (Qw0 (its.map itV) (its.map itV).length 0):=by rw [hil];exact XP1 hns its.length 0 (by omega)
 refine .bndS (zx2 E.toEn hsq).ss (fun a ha=>?_)
 subst ha
 refine .bndS (qF2 E hsq) (fun a ha=>?_)
 subst ha
 refine .ndec (fun h=>absurd rfl h) (fun _=>?_)
 obtain ⟨f1,f2⟩:=JU1 (its.map itV) (ms.map V.bool) (its.map itV).length 0 ([],none)
 have hq:=ls_fin E.toEn (its.map itV).length 0 ([],none) (by omega) ⟨GndR.nil,fun _ _ e=>by cases e⟩
 obtain ⟨r1,r2⟩:=qv2 (qa0 (its.map itV) (ms.map V.bool) (its.map itV).length 0 ([],none))
 obtain ⟨q1,q2⟩:=ls_res hq
 have hfl:(spQ (its.map itV) (ms.map V.bool)).1++(spQ (its.map itV) (ms.map V.bool)).2.flatMap qK0=Qw0 (its.map itV) (its.map itV).length 0:=r1.trans f1
 have hsl:=congrArg List.length hfl
 rw [List.length_append,QZ1] at hsl
 have hlen:(spQ (its.map itV) (ms.map V.bool)).2.length=0+cntN (ms.map V.bool) (its.map itV).length 0:=r2.trans f2
 have hcn:=Yb1 (ms.map V.bool) (its.map itV).length 0
 refine .bndS (Qm1 (fun x hx=>hall x (by rw [← hfl];exact List.mem_append_left _ hx)) (by omega)) (fun b hb=>?_)
 subst hb
 refine .ct (.bndS (XX1 (fun x hx=>?_) (by omega) (spQ (its.map itV) (ms.map V.bool)).2.length 0 (by omega)) (fun a _=>.ret rfl))
 obtain ⟨l,rfl,hgl⟩:=q2 x hx
 have hsub:∀ y∈l,y∈(spQ (its.map itV) (ms.map V.bool)).2.flatMap qK0:=fun y hy=>List.mem_flatMap.2 ⟨_,hx,hy⟩
 refine ⟨l,rfl,fun y hy=>hall y (by rw [← hfl];exact List.mem_append_right _ (hsub y hy)),?_⟩
 have hle:l.length≤((spQ (its.map itV) (ms.map V.bool)).2.flatMap qK0).length:=Ka1 hx
 omega
def ze2:T Bool:=(.n (.n (.n (.n (.n (.n .e false (.n (.n (.n .e true .e) true .e) true .e)) false (.n (.n (.n (.n .e true .e) true .e) false (.n (.n .e true .e) true .e)) false (.n (.n .e true .e) false .e))) false (.n (.n (.n (.n (.n .e true .e) true .e) false .e) true (.n .e false (.n .e true .e))) false (.n (.n (.n .e true .e) true (.n (.n .e true .e) true .e)) true .e))) false (.n (.n (.n (.n (.n .e true .e) true .e) false (.n (.n .e true .e) true (.n .e true .e))) false (.n (.n (.n .e true .e) false (.n (.n .e true .e) true .e)) false (.n (.n (.n .e true .e) true .e) false .e))) false (.n (.n (.n (.n .e true .e) false .e) false (.n .e true (.n .e true .e))) true (.n (.n (.n (.n .e true .e) true .e) false (.n .e true .e)) false (.n (.n (.n .e true .e) true .e) true .e))))) false (.n (.n (.n (.n (.n (.n (.n .e true .e) true .e) false .e) false (.n (.n .e true .e) true (.n .e true .e))) false (.n (.n (.n .e true .e) true (.n (.n .e true .e) true .e)) false (.n (.n (.n .e true .e) false .e) false .e))) false (.n (.n (.n (.n .e true .e) false (.n .e true .e)) false (.n .e true (.n .e true .e))) false (.n (.n (.n .e true .e) false (.n .e true .e)) true (.n (.n (.n .e true .e) true .e) false .e)))) false (.n (.n (.n (.n (.n .e true .e) true .e) true (.n (.n (.n .e true .e) true .e) true (.n .e true .e))) false (.n (.n (.n (.n .e true .e) false .e) false (.n .e true .e)) true (.n (.n (.n .e true .e) true .e) false (.n .e true .e)))) false (.n (.n (.n (.n .e true .e) false .e) false (.n (.n .e true .e) false (.n .e true .e))) false (.n (.n (.n (.n .e true .e) true .e) false (.n .e true .e)) true (.n .e true .e)))))) false (.n (.n (.n (.n (.n (.n (.n .e true .e) false (.n (.n .e true .e) false .e)) false (.n (.n .e true .e) false .e)) false (.n (.n (.n .e true .e) true (.n (.n .e true .e) false .e)) false .e)) false (.n (.n (.n (.n .e true .e) false .e) false (.n (.n (.n .e true .e) true .e) true (.n .e true .e))) false (.n (.n (.n .e true .e) false (.n .e true .e)) true (.n .e false (.n .e true .e))))) false (.n (.n (.n (.n (.n (.n .e true .e) true .e) true (.n (.n .e true .e) false .e)) false (.n (.n .e true .e) false (.n .e true .e))) false (.n (.n (.n (.n .e true .e) false .e) false (.n .e true .e)) false (.n (.n (.n .e true .e) false .e) true .e))) false (.n (.n (.n (.n .e true .e) false .e) false (.n (.n (.n .e true .e) false .e) true .e)) true (.n (.n (.n (.n .e true .e) true .e) false (.n .e true .e)) true (.n (.n .e true .e) false .e))))) false (.n (.n (.n (.n (.n (.n .e true .e) false (.n (.n .e true .e) false .e)) false (.n (.n .e true .e) true (.n .e true .e))) false (.n (.n (.n (.n .e true .e) false .e) false (.n (.n .e true .e) true .e)) false (.n (.n .e true .e) false .e))) false (.n (.n (.n (.n (.n .e true .e) true .e) true .e) false (.n (.n (.n .e true .e) false .e) true (.n .e true .e))) true (.n (.n (.n (.n .e true .e) true .e) false (.n .e true .e)) false (.n (.n .e true .e) true .e)))) false (.n (.n (.n (.n (.n (.n .e true .e) true .e) false .e) false (.n (.n .e true .e) true (.n .e true .e))) false (.n (.n .e false (.n .e true .e)) true (.n (.n (.n .e true .e) false .e) true .e))) false (.n (.n (.n (.n (.n .e true .e) true .e) false (.n .e true .e)) false .e) false (.n (.n (.n .e true .e) true .e) false (.n (.n (.n .e true .e) false .e) true (.n .e true .e))))))))
def qe2:T Bool:=(.n (.n (.n (.n (.n (.n .e false (.n (.n (.n .e true .e) true .e) false .e)) false (.n (.n (.n (.n .e true .e) false .e) false .e) false .e)) false (.n (.n .e false (.n .e false (.n .e true .e))) false (.n (.n (.n .e true .e) false .e) false .e))) false (.n (.n (.n .e false (.n .e true .e)) false (.n .e false (.n (.n (.n .e true .e) false .e) false .e))) false (.n (.n .e false (.n .e false (.n .e true .e))) false (.n (.n (.n (.n .e true .e) true .e) false (.n .e true .e)) false .e)))) false (.n (.n (.n (.n .e false (.n .e false (.n .e true .e))) false .e) false (.n (.n .e false (.n .e true (.n .e true .e))) false (.n (.n (.n .e true .e) false (.n .e true .e)) false .e))) false (.n (.n (.n .e false (.n (.n .e true .e) false (.n .e true .e))) false (.n (.n .e false (.n .e true .e)) false (.n (.n (.n .e true .e) false .e) false .e))) false (.n .e false (.n (.n (.n (.n .e true .e) true .e) false .e) false .e))))) false (.n (.n (.n (.n (.n (.n .e false (.n (.n .e true .e) false .e)) false .e) false (.n (.n .e true .e) false .e)) false (.n (.n .e false (.n .e true .e)) false (.n (.n (.n .e true .e) false .e) false .e))) false (.n (.n (.n .e false (.n (.n .e true .e) false .e)) false (.n (.n (.n (.n .e true .e) false .e) false (.n .e true .e)) false (.n (.n (.n .e true .e) false .e) true .e))) false (.n .e false (.n (.n (.n (.n .e true .e) true .e) false .e) false .e)))) false (.n (.n (.n (.n .e false (.n (.n .e true .e) false (.n .e true .e))) false (.n (.n (.n (.n .e true .e) false .e) false .e) false .e)) false (.n (.n .e false (.n .e true (.n .e true .e))) false (.n (.n (.n (.n .e true .e) true .e) false (.n .e true .e)) false .e))) false (.n (.n .e false (.n (.n .e false (.n .e true .e)) false (.n (.n (.n .e true .e) false .e) false .e))) false (.n (.n (.n (.n (.n .e true .e) false .e) false .e) false .e) false (.n (.n (.n .e true .e) false .e) false .e))))))
noncomputable def EK0:Env:={ shared:=T.get false ze2,pubRet:=T.get false qe2,prim:=fun _ _=>none,glob:=JY0,data:=fun f=>Nat.beq f 34||Nat.beq f 8||Nat.beq f 33 }
theorem names:yq0 Tryz.prog:=KP1 (by kernel_rfl)
theorem snd0:Snd Tryz.prog EK0 (run Tryz.prog EK0 1000000):=qi1 names (GT1 rfl) _
theorem Zm1:qM1=asciiZ.map (V.int .u8):=by kernel_rfl
def qu1:List (List UInt8×V):=[([97,110,100,32,97,115,32,98,114,101,97,107,32,99,97,116,99,104,32,100,101,102,32,101,108,105,102,32,101,108,115,101,32,101,110,100,32,102,111,114,101,97,99,104,32,105,102,32,105,109,112,111,114,116,32,105,110,99,108,117,100,101,32,108,97,98,101,108,32,109,111,100,117,108,101,32,111,114,32,114,101,100,117,99,101,32,116,104,101,110,32,116,114,121],(.fsl 9 1 0 [(.str [97,110,100]),(.str [97,115]),(.str [98,114,101,97,107]),(.str [99,97,116,99,104]),(.str [100,101,102]),(.str [101,108,105,102]),(.str [101,108,115,101]),(.str [101,110,100]),(.str [102,111,114,101,97,99,104]),(.str [105,102]),(.str [105,109,112,111,114,116]),(.str [105,110,99,108,117,100,101]),(.str [108,97,98,101,108]),(.str [109,111,100,117,108,101]),(.str [111,114]),(.str [114,101,100,117,99,101]),(.str [116,104,101,110]),(.str [116,114,121])] (.some 18))),([124],(.fsl 9 1 0 [(.str [124])] (.some 1))),([44],(.fsl 9 1 0 [(.str [44])] (.some 1))),([47,47],(.fsl 9 1 0 [(.str [47,47])] (.some 1))),([61,32,124,61,32,43,61,32,45,61,32,42,61,32,47,61,32,37,61,32,47,47,61],(.fsl 9 1 0 [(.str [61]),(.str [124,61]),(.str [43,61]),(.str [45,61]),(.str [42,61]),(.str [47,61]),(.str [37,61]),(.str [47,47,61])] (.some 8))),([111,114],(.fsl 9 1 0 [(.str [111,114])] (.some 1))),([97,110,100],(.fsl 9 1 0 [(.str [97,110,100])] (.some 1))),([61,61,32,33,61,32,60,32,60,61,32,62,32,62,61],(.fsl 9 1 0 [(.str [61,61]),(.str [33,61]),(.str [60]),(.str [60,61]),(.str [62]),(.str [62,61])] (.some 6))),([43,32,45],(.fsl 9 1 0 [(.str [43]),(.str [45])] (.some 2))),([42,32,47,32,37],(.fsl 9 1 0 [(.str [42]),(.str [47]),(.str [37])] (.some 3)))]
theorem QE1:ckT Tryz.prog EK0 1000000 317 qu1=true:=by kernel_rfl
def Gy0:List (FuncId×List (List UInt8×V)):=[(317,qu1)]
noncomputable def E1:Env:={ EK0 with prim:=YS0 Gy0 [] }
theorem prim1:yr0 Tryz.prog E1:=GA0 (TT:=Gy0) (T0:=[]) rfl (fun p hp=>by
 simp only [Gy0,List.mem_cons,List.not_mem_nil,or_false] at hp
 subst hp
 exact Yz0 snd0 QE1
 ) (fun q hq=>by cases hq)
theorem snd1:Snd Tryz.prog E1 (run Tryz.prog E1 1000000):=qi1 names prim1 _
def QF1:List (List UInt8×V):=[([],(.int .i64 0)),([124],(.int .i64 1)),([44],(.int .i64 2)),([47,47],(.int .i64 3)),([61],(.int .i64 4)),([124,61],(.int .i64 4)),([43,61],(.int .i64 4)),([45,61],(.int .i64 4)),([42,61],(.int .i64 4)),([47,61],(.int .i64 4)),([37,61],(.int .i64 4)),([47,47,61],(.int .i64 4)),([111,114],(.int .i64 5)),([97,110,100],(.int .i64 6)),([61,61],(.int .i64 7)),([33,61],(.int .i64 7)),([60],(.int .i64 7)),([60,61],(.int .i64 7)),([62],(.int .i64 7)),([62,61],(.int .i64 7)),([43],(.int .i64 8)),([45],(.int .i64 8)),([42],(.int .i64 9)),([47],(.int .i64 9)),([37],(.int .i64 9))]
theorem zS2:ckT Tryz.prog E1 1000000 199 QF1=true:=by kernel_rfl
def QG1:List (List UInt8×V):=[([],(.int .i64 0)),([124],(.int .i64 1)),([44],(.int .i64 3)),([47,47],(.int .i64 3)),([61],(.int .i64 5)),([124,61],(.int .i64 5)),([43,61],(.int .i64 5)),([45,61],(.int .i64 5)),([42,61],(.int .i64 5)),([47,61],(.int .i64 5)),([37,61],(.int .i64 5)),([47,47,61],(.int .i64 5)),([111,114],(.int .i64 6)),([97,110,100],(.int .i64 7)),([61,61],(.int .i64 8)),([33,61],(.int .i64 8)),([60],(.int .i64 8)),([60,61],(.int .i64 8)),([62],(.int .i64 8)),([62,61],(.int .i64 8)),([43],(.int .i64 9)),([45],(.int .i64 9)),([42],(.int .i64 10)),([47],(.int .i64 10)),([37],(.int .i64 10))]
theorem zT2:ckT Tryz.prog E1 1000000 259 QG1=true:=by kernel_rfl
def tSide:List (List UInt8×V):=[([],(.int .i64 0)),([124],(.int .i64 2)),([44],(.int .i64 1)),([47,47],(.int .i64 2)),([61],(.int .i64 0)),([124,61],(.int .i64 0)),([43,61],(.int .i64 0)),([45,61],(.int .i64 0)),([42,61],(.int .i64 0)),([47,61],(.int .i64 0)),([37,61],(.int .i64 0)),([47,47,61],(.int .i64 0)),([111,114],(.int .i64 1)),([97,110,100],(.int .i64 1)),([61,61],(.int .i64 0)),([33,61],(.int .i64 0)),([60],(.int .i64 0)),([60,61],(.int .i64 0)),([62],(.int .i64 0)),([62,61],(.int .i64 0)),([43],(.int .i64 1)),([45],(.int .i64 1)),([42],(.int .i64 1)),([47],(.int .i64 1)),([37],(.int .i64 1))]
theorem zU2:ckT Tryz.prog E1 1000000 289 tSide=true:=by kernel_rfl
def Gz0:List (FuncId×List (List UInt8×V)):=[(317,qu1),(199,QF1),(259,QG1),(289,tSide)]
noncomputable def E2:Env:={ EK0 with prim:=YS0 Gz0 [] }
theorem prim2:yr0 Tryz.prog E2:=GA0 (TT:=Gz0) (T0:=[]) rfl (fun p hp=>by
 simp only [Gz0,List.mem_cons,List.not_mem_nil,or_false] at hp
 rcases hp with rfl | rfl | rfl | rfl
 ·exact Yz0 snd0 QE1
 ·exact Yz0 snd1 zS2
 ·exact Yz0 snd1 zT2
 ·exact Yz0 snd1 zU2
 ) (fun q hq=>by cases hq)
theorem snd2:Snd Tryz.prog E2 (run Tryz.prog E2 1000000):=qi1 names prim2 _
theorem globOk {S:Nat→Nat→Option Value} (h:∀ i,i<256→S 3 i=some (.int .u8 (asciiZ.getD i 0))):GlobOk JY0 S:=by
 intro gl x hx
 unfold JY0 at hx
 obtain ⟨hb,hx⟩:=qf0 hx rfl
 rw [Nat.beq_eq] at hb;subst hb
 cases hx
 rw [Zm1]
 exact tab_gr (by kernel_rfl) (by decide) h
def known0:List (FuncId×V):=[(11,.bool true)]
theorem XV1:ck0 Tryz.prog E2 1000000 known0=true:=by kernel_rfl
theorem GS1:∀ q,q∈GO0→PureOk PP EP.glob q.1 [] q.2:=Ya1 snd2 XV1
theorem primP:yr0 PP EP:=GA0 (TT:=[]) (T0:=GO0) rfl (fun p hp=>by cases hp) GS1
/-- A machine's run is a contract. -/
theorem cx_rn {P:Program} {E:Env} {C:Cf} {N:Nat} {f:FuncId} {args:List V} {h h':Heap} {v:V} (hr:rn P E C N (.call f args h)=.ret v h') {R':V→Heap→Prop} (hR:R' v h'):Cx P E f args h R':=fun hF _ _ _ _ cs us hW hG hs=>⟨v,h',hR,by
 have:=(rn_snd (C:=C) hF.names hF.prim N).call cs f args us hW hG hs
 rw [hr] at this
 exact this⟩
theorem Cx.told {P:Program} {E:Env} {f:FuncId} {a b:List V} {h:Heap} {R':V→Heap→Prop} (hw:Wks b a) (H:Cx P E f a h R'):Cx P E f b h R':=fun hF _ _ _ _ cs us hW hG hs=>H hF cs us hW hG (hw.rs hs)
theorem Bs.wk {x:V} {l:List UInt8} (h:Bs x l):Wk x (.osl 1 (l.map bV)):=by
 rcases h with ⟨rfl,rfl⟩ | rfl
 ·exact Wk.nils 1
 ·exact Wk.gsl
theorem bytes_len {P:Program} {W:World} {r:Reach} {b0:Nat} {t e:TypeId} {v:Value} {x:V} {l:List UInt8} {g:Gh} (ht:P.underlying t=some (.slice e)) (h:Value.okWide P W r b0 t v) (hx:Bs x l) (hR:R g v x):(l.length:Int)≤9223372036854775807:=by
 rcases hx with ⟨_,rfl⟩ | rfl
 ·decide
 ·have hg:=hR.gsl_inv
  cases hg with
  | @gsl b off _ cap _ _ val hsz hc hS hcap hle hh =>
   simp only [Value.okWide,ht,Cell.okWide] at h
   unfold Cell.ok at h
   rw [ht] at h
   dsimp only at h
   obtain ⟨h1,h2,_⟩:=h
   rw [List.length_map] at h1
   have h3:(cap:Int)≤9223372036854775807:=h2
   omega
theorem wks3 {a b c a' b' c':V} (h0:Wk a a') (h1:Wk b b') (h2:Wk c c'):Wks [a,b,c] [a',b',c']:=by
 refine ⟨rfl,fun i x y p q=>?_⟩
 match i,p,q with
 | 0,p,q=>cases p;cases q;exact h0
 | 1,p,q=>cases p;cases q;exact h1
 | 2,p,q=>cases p;cases q;exact h2
 | i+3,p,q=>cases p
theorem tidySpreads_walk (x0:V) (l0:List UInt8) (h0:Bs x0 l0) (b0:(l0.length:Int)≤9223372036854775807) (x1:V) (l1:List UInt8) (h1:Bs x1 l1) (b1:(l1.length:Int)≤9223372036854775807) (l2:List Bool):Cx PP EP 3 [x0,x1,.osl 1 (l2.map V.bool)] Heap.empty (fun v _=>v=.bool true):=by
 obtain ⟨r,rfl,n,h⟩:=spr_ok l0 l1 l2 b0 b1
 exact Cx.told (wks3 h0.wk h1.wk (.refl _)) (cx_rn (h n (Nat.le_refl n)) rfl)
end Go.AM
