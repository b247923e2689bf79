/-
  WHAT FUNCTIONS OF THE PROGRAM COME TO, told by the machine, and plain laws of it. No condition but what each theorem says of its arguments.
-/
import Derived.Test.YtcfdhkmbooipbaaGreatDoorTd8
namespace Go.AM
open Go.Proofs
set_option maxRecDepth 100000
set_option maxHeartbeats 4000000
/-- What is wanted. -/
structure Q2 (es ms xs l1 fin:List V) (m:Int) (a:Ap):Prop where
 es:a.es=es
 ms:a.ms=ms
 xs:a.xs=xs
 l:qb0 l1=false→a.l1=l1∧a.n1=l1.length
 s:a.s=!qb0 fin
 k:a.s=true→a.l2=fin∧a.n2=fin.length
 m:a.m=m
noncomputable def t2 (es ms xs:List V) (v1 n1 v n:Nat) (m i:Int):List V→List V→Task
 | [],[]=>.code (.loop (lpB PP 4 2)) ((base 4 112).on [(0,.osl 4 es),(1,.osl 1 ms),(8,.osl 1 xs),(9,.nils),(11,.nils),(12,.int .i64 m),(13,.int .i64 i)]) Heap.empty
 | [],a::b=>.code (.loop (lpB PP 4 2)) ((base 4 112).on [(0,.osl 4 es),(1,.osl 1 ms),(8,.osl 1 xs),(9,.nils),(11,.sl 0 v 0 n none),(12,.int .i64 m),(13,.int .i64 i)]) (hp [rwT v (a::b)])
 | a::b,[]=>.code (.loop (lpB PP 4 2)) ((base 4 112).on [(0,.osl 4 es),(1,.osl 1 ms),(8,.osl 1 xs),(9,.sl 0 v1 0 n1 none),(11,.nils),(12,.int .i64 m),(13,.int .i64 i)]) (hp [rwT v1 (a::b)])
 | a::b,c::d=>.code (.loop (lpB PP 4 2)) ((base 4 112).on [(0,.osl 4 es),(1,.osl 1 ms),(8,.osl 1 xs),(9,.sl 0 v1 0 n1 none),(11,.sl 1 v 0 n none),(12,.int .i64 m),(13,.int .i64 i)]) (hp [rwT v1 (a::b),rwT v (c::d)])
def nA2 (u:Bool) (a:Ap):Ap:=⟨a.es,a.ms,a.xs,u,0,bif u then a.n1 else 0,bif u then a.l1 else [],a.s,0,bif a.s then a.n2 else 0,bif a.s then a.l2 else [],a.m⟩
theorem rdA2 (u:Bool) (a:Ap):rdA (rA2 (base 4 112) u a.s a)=nA2 u a:=by
 obtain ⟨es,ms,xs,u',v1,n1,l1,s,v2,n2,l2,m⟩:=a
 cases u <;> cases s <;> kernel_rfl
theorem Q2.back {es ms xs l1 fin:List V} {m:Int} {a:Ap} (h:Q2 es ms xs l1 fin m (nA2 (!qb0 l1) a)):Q2 es ms xs l1 fin m a:=by
 obtain ⟨h1,h2,h3,h4,h5,h6,h7⟩:=h
 refine ⟨h1,h2,h3,fun e=>?_,h5,fun e=>?_,h7⟩
 ·have:=h4 e
  unfold nA2 at this
  simp only [e,Bool.not_false,cond_true] at this
  exact this
 ·have:=h6 e
  unfold nA2 at this
  simp only [e,cond_true] at this
  exact this
theorem Q2.forth {es ms xs l1 fin:List V} {m:Int} {a:Ap} (h:Q2 es ms xs l1 fin m a):Q2 es ms xs l1 fin m (nA2 (!qb0 l1) a):=by
 obtain ⟨h1,h2,h3,h4,h5,h6,h7⟩:=h
 refine ⟨h1,h2,h3,fun e=>?_,h5,fun e=>?_,h7⟩
 ·have:=h4 e
  unfold nA2
  simp only [e,Bool.not_false,cond_true]
  exact this
 ·have:=h6 e
  unfold nA2
  have e:a.s=true:=e
  simp only [e,cond_true]
  exact this
theorem yN1 (es ms xs:List V) (v1 n1 v n:Nat) (m i:Int) (l1 acc:List V) (a:Ap):rA2 (frO (t2 es ms xs v1 n1 v n m i l1 acc)) (zF0 (T.get undef (frO (t2 es ms xs v1 n1 v n m i l1 acc)).tm 9)) a.s a=rA2 (base 4 112) (!qb0 l1) a.s a:=by
 cases l1 <;> cases acc <;> rfl
theorem a2_of {es ms xs l1 acc fin:List V} {v1 n1 v n:Nat} {m m' i:Int} (h:∃ r,(∃ a,r=rA2 (base 4 112) (!qb0 l1) a.s a∧Q2 es ms xs l1 fin m' a)∧Tk (t2 es ms xs v1 n1 v n m i l1 acc) r):OkT (fun X=>X.A2 (t2 es ms xs v1 n1 v n m i l1 acc)) (Q2 es ms xs l1 fin m'):=by
 obtain ⟨r,⟨a,e,hq⟩,hT⟩:=h
 exact OkT.nrm (R:=fun a=>rA2 (frO (t2 es ms xs v1 n1 v n m i l1 acc)) (zF0 (T.get undef (frO (t2 es ms xs v1 n1 v n m i l1 acc)).tm 9)) a.s a) (Q:=qN) (L:=rdA) (N:=nA2 (!qb0 l1)) (fun _=>rfl) (fun a=>by rw [yN1];exact rdA2 _ a) (fun a h=>h.back) ⟨r,⟨a,by rw [yN1];exact e,hq.forth⟩,hT⟩
theorem Q2.g1 {es ms xs l1 fin:List V} {m:Int} {a:Ap} (h:Q2 es ms xs l1 fin m a) (hn:qb0 l1=false) (hg:GndR l1):GndR a.l1:=by rw [(h.l hn).1];exact hg
theorem Q2.g2 {es ms xs l1 fin:List V} {m:Int} {a:Ap} (h:Q2 es ms xs l1 fin m a) (hg:GndR fin) (e:a.s=true):GndR a.l2:=by rw [(h.k e).1];exact hg
noncomputable def zI0 (es:List V):Nat→Nat→List V
 | 0,_=>[]
 | d+1,i=>nt es i++zI0 es d (i+1)
noncomputable def zn0 (ms:List V):Nat→Nat→Nat
 | 0,_=>0
 | d+1,i=>(cnt ms i).toNat+zn0 ms d (i+1)
theorem XQ0 {l:List V} (h:qb0 l=false):∃ c k,l=c::k:=by
 cases l with
 | nil=>cases h
 | cons c k=>exact ⟨c,k,rfl⟩
theorem Xw0 {es ms xs l1:List V} (E:Ef es ms) (hg1:GndR l1) (d:Nat):∀ (i v1 n1 v n:Nat) (m:Int) (acc:List V),i+d=es.length→n1=l1.length→n=acc.length→GndR acc→GndR (acc++zI0 es d i)→(acc++zI0 es d i).length≤1000000000→0≤m→m+d≤100000000000→OkT (fun X=>X.A2 (t2 es ms xs v1 n1 v n m i l1 acc)) (Q2 es ms xs l1 (acc++zI0 es d i) (m+(zn0 ms d i:Nat))):=by
 have hl:=E.len
 induction d with
 | zero =>
  intro i v1 n1 v n m acc hi hn1 hn hg hf hs hm0 hm1
  subst hn hn1
  have e0:acc++zI0 es 0 i=acc:=List.append_nil _
  have e1:m+(zn0 ms 0 i:Nat)=m:=by show m+((0:Nat):Int)=m;omega
  rw [e0] at hf ⊢
  rw [e1]
  refine a2_of (Tk.byT ?_)
  cases l1 with
  | nil =>
   cases acc with
   | nil=>exact .of (fun q=>qR1 (XT q) _ none some es ms xs m i) (.decF (by omega) (.ret ⟨⟨es,ms,xs,false,0,0,[],false,0,0,[],m⟩,rfl,rfl,rfl,rfl,(fun e=>by cases e),rfl,(fun e=>by cases e),rfl⟩))
   | cons a b=>exact .of (fun q=>qS1 (XT q) _ none some es ms xs m i v (a::b).length (a::b)) (.decF (by omega) (.need hg (.need hg (.ret ⟨⟨es,ms,xs,false,0,0,[],true,v,(a::b).length,a::b,m⟩,rfl,rfl,rfl,rfl,(fun e=>by cases e),rfl,(fun _=>⟨rfl,rfl⟩),rfl⟩))))
  | cons x y =>
   cases acc with
   | nil=>exact .of (fun q=>qT1 (XT q) _ none some es ms xs m i v1 (x::y).length (x::y)) (.decF (by omega) (.need hg1 (.need hg1 (.ret ⟨⟨es,ms,xs,true,v1,(x::y).length,x::y,false,0,0,[],m⟩,rfl,rfl,rfl,rfl,(fun _=>⟨rfl,rfl⟩),rfl,(fun e=>by cases e),rfl⟩))))
   | cons a b=>exact .of (fun q=>qU1 (XT q) _ none some es ms xs m i v1 (x::y).length (x::y) v (a::b).length (a::b)) (.decF (by omega) (.need hg1 (.need hg (.need hg1 (.need hg (.ret ⟨⟨es,ms,xs,true,v1,(x::y).length,x::y,true,v,(a::b).length,a::b,m⟩,rfl,rfl,rfl,rfl,(fun _=>⟨rfl,rfl⟩),rfl,(fun _=>⟨rfl,rfl⟩),rfl⟩))))))
 | succ d IH =>
  intro i v1 n1 v n m acc hi hn1 hn hg hf hs hm0 hm1
  subst hn hn1
  refine a2_of (Tk.byT ?_)
  have hx:zI0 es (d+1) i=nt es i++zI0 es d (i+1):=rfl
  have hgi:=E.gnt i (by omega)
  have hld:=E.ldn i (by omega)
  have hN:gE 4 es (Nat.add (Int.toNat (i:Int)*4) 3) 0=nt es i:=gE_sh es i
  have hct:cnt ms i=true→m+(zn0 ms (d+1) i:Nat)=(m+1)+(zn0 ms d (i+1):Nat):=fun e=>by
   show m+(((cnt ms i).toNat+zn0 ms d (i+1):Nat):Int)=_
   rw [e];show m+((1+zn0 ms d (i+1):Nat):Int)=_;omega
  have hcf:cnt ms i=false→m+(zn0 ms (d+1) i:Nat)=m+(zn0 ms d (i+1):Nat):=fun e=>by
   show m+(((cnt ms i).toNat+zn0 ms d (i+1):Nat):Int)=_
   rw [e];show m+((0+zn0 ms d (i+1):Nat):Int)=_;omega
  rw [hx] at hf hs ⊢
  cases l1 with
  | nil =>
   cases acc with
   | nil =>
    refine .of (fun q=>qR1 (XT q) _ none some es ms xs m i) ?_
    simp only [hN]
    refine .decT (by omega) (.nX ⟨by omega,by omega⟩ (.need hld (.cond (fun hn=>?_) (fun hn=>?_))))
    ·have hn:nt es i=[]:=qY0 hn
     rw [hn] at hf hs ⊢
     refine .joinC (c:=cnt ms i=true) (fun hc=>?_) (fun j hj=>?_)
     ·rw [hct hc]
      (repeat (first | (with_reducible refine Rn.nI ⟨by omega,by omega⟩ ?_) | (with_reducible refine Rn.need (by assumption) ?_)))
      have hI:=IH (i+1) 0 0 0 0 (m+1) [] (by omega) rfl rfl hg hf hs (by omega) (by omega)
      refine .bndT hI fun a ha=>?_
      (refine .cond (fun hs=>.need (Q2.g2 ha hf hs) (.ret ⟨a,by rw [hs];rfl,ha⟩)) (fun hs=>.ret ⟨a,by rw [hs];rfl,ha⟩))
     ·refine .dec (fun hc=>hj ?_) (fun hc=>.nX ⟨by omega,by omega⟩ (.need (E.ldm i (by omega)) (.cond (fun hb=>?_) (fun hb=>hj ?_))))
      ·unfold cnt;rw [decide_eq_true (by omega)];rfl
      ·have hc:cnt ms i=false:=by
        unfold cnt
        rw [decide_eq_false (by omega),show gB 1 ms (i*1) 0=true from hb];rfl
       rw [hcf hc]
       (repeat (first | (with_reducible refine Rn.nI ⟨by omega,by omega⟩ ?_) | (with_reducible refine Rn.need (by assumption) ?_)))
       have hI:=IH (i+1) 0 0 0 0 m [] (by omega) rfl rfl hg hf hs (by omega) (by omega)
       refine .bndT hI fun a ha=>?_
       (refine .cond (fun hs=>.need (Q2.g2 ha hf hs) (.ret ⟨a,by rw [hs];rfl,ha⟩)) (fun hs=>.ret ⟨a,by rw [hs];rfl,ha⟩))
      ·unfold cnt;rw [show gB 1 ms (i*1) 0=false from hb];simp
    ·obtain ⟨c,l,hc0⟩:=XQ0 hn
     rw [hc0] at hf hs hgi ⊢
     have hs2:=hs
     simp only [List.nil_append,List.length_append] at hs2
     refine .need ⟨(fun e=>by cases e),by omega,by omega⟩ ?_
     refine .joinC (c:=cnt ms i=true) (fun hc=>?_) (fun j hj=>?_)
     ·rw [hct hc]
      (repeat (first | (with_reducible refine Rn.nI ⟨by omega,by omega⟩ ?_) | (with_reducible refine Rn.need (by assumption) ?_)))
      have hI:=IH (i+1) 0 0 0 (c::l).length (m+1) (c::l) (by omega) rfl rfl hgi hf hs (by omega) (by omega)
      refine .bndT hI fun a ha=>?_
      (refine .cond (fun hs=>.need (Q2.g2 ha hf hs) (.ret ⟨a,by rw [hs];rfl,ha⟩)) (fun hs=>.ret ⟨a,by rw [hs];rfl,ha⟩))
     ·refine .dec (fun hc=>hj ?_) (fun hc=>.nX ⟨by omega,by omega⟩ (.need (E.ldm i (by omega)) (.cond (fun hb=>?_) (fun hb=>hj ?_))))
      ·unfold cnt;rw [decide_eq_true (by omega)];rfl
      ·have hc:cnt ms i=false:=by
        unfold cnt
        rw [decide_eq_false (by omega),show gB 1 ms (i*1) 0=true from hb];rfl
       rw [hcf hc]
       (repeat (first | (with_reducible refine Rn.nI ⟨by omega,by omega⟩ ?_) | (with_reducible refine Rn.need (by assumption) ?_)))
       have hI:=IH (i+1) 0 0 0 (c::l).length m (c::l) (by omega) rfl rfl hgi hf hs (by omega) (by omega)
       refine .bndT hI fun a ha=>?_
       (refine .cond (fun hs=>.need (Q2.g2 ha hf hs) (.ret ⟨a,by rw [hs];rfl,ha⟩)) (fun hs=>.ret ⟨a,by rw [hs];rfl,ha⟩))
      ·unfold cnt;rw [show gB 1 ms (i*1) 0=false from hb];simp
   | cons a0 b0 =>
    refine .of (fun q=>qS1 (XT q) _ none some es ms xs m i v (a0::b0).length (a0::b0)) ?_
    simp only [hN]
    refine .decT (by omega) (.nX ⟨by omega,by omega⟩ (.need hld (.cond (fun hn=>?_) (fun hn=>?_))))
    ·have hn:nt es i=[]:=qY0 hn
     rw [hn] at hf hs ⊢
     refine .joinC (c:=cnt ms i=true) (fun hc=>?_) (fun j hj=>?_)
     ·rw [hct hc]
      (repeat (first | (with_reducible refine Rn.nI ⟨by omega,by omega⟩ ?_) | (with_reducible refine Rn.need (by assumption) ?_)))
      have hI:=IH (i+1) 0 0 v (a0::b0).length (m+1) (a0::b0) (by omega) rfl rfl hg hf hs (by omega) (by omega)
      refine .bndT hI fun a ha=>?_
      (refine .cond (fun hs=>.need (Q2.g2 ha hf hs) (.ret ⟨a,by rw [hs];rfl,ha⟩)) (fun hs=>.ret ⟨a,by rw [hs];rfl,ha⟩))
     ·refine .dec (fun hc=>hj ?_) (fun hc=>.nX ⟨by omega,by omega⟩ (.need (E.ldm i (by omega)) (.cond (fun hb=>?_) (fun hb=>hj ?_))))
      ·unfold cnt;rw [decide_eq_true (by omega)];rfl
      ·have hc:cnt ms i=false:=by
        unfold cnt
        rw [decide_eq_false (by omega),show gB 1 ms (i*1) 0=true from hb];rfl
       rw [hcf hc]
       (repeat (first | (with_reducible refine Rn.nI ⟨by omega,by omega⟩ ?_) | (with_reducible refine Rn.need (by assumption) ?_)))
       have hI:=IH (i+1) 0 0 v (a0::b0).length m (a0::b0) (by omega) rfl rfl hg hf hs (by omega) (by omega)
       refine .bndT hI fun a ha=>?_
       (refine .cond (fun hs=>.need (Q2.g2 ha hf hs) (.ret ⟨a,by rw [hs];rfl,ha⟩)) (fun hs=>.ret ⟨a,by rw [hs];rfl,ha⟩))
      ·unfold cnt;rw [show gB 1 ms (i*1) 0=false from hb];simp
    ·have hn:nt es i≠[]:=Ye0 hn
     have hga:=hg.app hgi
     rw [← List.append_assoc] at hf hs ⊢
     have hs2:=hs
     simp only [List.length_append] at hs2
     refine .need ⟨trivial,hn,trivial,by omega,by omega,by omega⟩ ?_
     refine .joinC (c:=cnt ms i=true) (fun hc=>?_) (fun j hj=>?_)
     ·rw [hct hc]
      (repeat (first | (with_reducible refine Rn.nI ⟨by omega,by omega⟩ ?_) | (with_reducible refine Rn.need (by assumption) ?_)))
      have hI:=IH (i+1) 0 0 (v+1) ((a0::b0).length+(nt es i).length) (m+1) (a0::b0++nt es i) (by omega) rfl (by rw [List.length_append]) hga hf hs (by omega) (by omega)
      refine .bndT hI fun a ha=>?_
      (refine .cond (fun hs=>.need (Q2.g2 ha hf hs) (.ret ⟨a,by rw [hs];rfl,ha⟩)) (fun hs=>.ret ⟨a,by rw [hs];rfl,ha⟩))
     ·refine .dec (fun hc=>hj ?_) (fun hc=>.nX ⟨by omega,by omega⟩ (.need (E.ldm i (by omega)) (.cond (fun hb=>?_) (fun hb=>hj ?_))))
      ·unfold cnt;rw [decide_eq_true (by omega)];rfl
      ·have hc:cnt ms i=false:=by
        unfold cnt
        rw [decide_eq_false (by omega),show gB 1 ms (i*1) 0=true from hb];rfl
       rw [hcf hc]
       (repeat (first | (with_reducible refine Rn.nI ⟨by omega,by omega⟩ ?_) | (with_reducible refine Rn.need (by assumption) ?_)))
       have hI:=IH (i+1) 0 0 (v+1) ((a0::b0).length+(nt es i).length) m (a0::b0++nt es i) (by omega) rfl (by rw [List.length_append]) hga hf hs (by omega) (by omega)
       refine .bndT hI fun a ha=>?_
       (refine .cond (fun hs=>.need (Q2.g2 ha hf hs) (.ret ⟨a,by rw [hs];rfl,ha⟩)) (fun hs=>.ret ⟨a,by rw [hs];rfl,ha⟩))
      ·unfold cnt;rw [show gB 1 ms (i*1) 0=false from hb];simp
  | cons x y =>
   cases acc with
   | nil =>
    refine .of (fun q=>qT1 (XT q) _ none some es ms xs m i v1 (x::y).length (x::y)) ?_
    simp only [hN]
    refine .decT (by omega) (.nX ⟨by omega,by omega⟩ (.need hld (.cond (fun hn=>?_) (fun hn=>?_))))
    ·have hn:nt es i=[]:=qY0 hn
     rw [hn] at hf hs ⊢
     refine .joinC (c:=cnt ms i=true) (fun hc=>?_) (fun j hj=>?_)
     ·rw [hct hc]
      (repeat (first | (with_reducible refine Rn.nI ⟨by omega,by omega⟩ ?_) | (with_reducible refine Rn.need (by assumption) ?_)))
      have hI:=IH (i+1) v1 (x::y).length 0 0 (m+1) [] (by omega) rfl rfl hg hf hs (by omega) (by omega)
      refine .bndT hI fun a ha=>?_
      (refine .cond (fun hs=>.need (Q2.g1 ha rfl hg1) (.need (Q2.g2 ha hf hs) (.ret ⟨a,by rw [hs];rfl,ha⟩))) (fun hs=>.need (Q2.g1 ha rfl hg1) (.ret ⟨a,by rw [hs];rfl,ha⟩)))
     ·refine .dec (fun hc=>hj ?_) (fun hc=>.nX ⟨by omega,by omega⟩ (.need (E.ldm i (by omega)) (.cond (fun hb=>?_) (fun hb=>hj ?_))))
      ·unfold cnt;rw [decide_eq_true (by omega)];rfl
      ·have hc:cnt ms i=false:=by
        unfold cnt
        rw [decide_eq_false (by omega),show gB 1 ms (i*1) 0=true from hb];rfl
       rw [hcf hc]
       (repeat (first | (with_reducible refine Rn.nI ⟨by omega,by omega⟩ ?_) | (with_reducible refine Rn.need (by assumption) ?_)))
       have hI:=IH (i+1) v1 (x::y).length 0 0 m [] (by omega) rfl rfl hg hf hs (by omega) (by omega)
       refine .bndT hI fun a ha=>?_
       (refine .cond (fun hs=>.need (Q2.g1 ha rfl hg1) (.need (Q2.g2 ha hf hs) (.ret ⟨a,by rw [hs];rfl,ha⟩))) (fun hs=>.need (Q2.g1 ha rfl hg1) (.ret ⟨a,by rw [hs];rfl,ha⟩)))
      ·unfold cnt;rw [show gB 1 ms (i*1) 0=false from hb];simp
    ·obtain ⟨c,l,hc0⟩:=XQ0 hn
     rw [hc0] at hf hs hgi ⊢
     have hs2:=hs
     simp only [List.nil_append,List.length_append] at hs2
     refine .need ⟨(fun e=>by cases e),by omega,by omega⟩ ?_
     refine .joinC (c:=cnt ms i=true) (fun hc=>?_) (fun j hj=>?_)
     ·rw [hct hc]
      (repeat (first | (with_reducible refine Rn.nI ⟨by omega,by omega⟩ ?_) | (with_reducible refine Rn.need (by assumption) ?_)))
      have hI:=IH (i+1) v1 (x::y).length 0 (c::l).length (m+1) (c::l) (by omega) rfl rfl hgi hf hs (by omega) (by omega)
      refine .bndT hI fun a ha=>?_
      (refine .cond (fun hs=>.need (Q2.g1 ha rfl hg1) (.need (Q2.g2 ha hf hs) (.ret ⟨a,by rw [hs];rfl,ha⟩))) (fun hs=>.need (Q2.g1 ha rfl hg1) (.ret ⟨a,by rw [hs];rfl,ha⟩)))
     ·refine .dec (fun hc=>hj ?_) (fun hc=>.nX ⟨by omega,by omega⟩ (.need (E.ldm i (by omega)) (.cond (fun hb=>?_) (fun hb=>hj ?_))))
      ·unfold cnt;rw [decide_eq_true (by omega)];rfl
      ·have hc:cnt ms i=false:=by
        unfold cnt
        rw [decide_eq_false (by omega),show gB 1 ms (i*1) 0=true from hb];rfl
       rw [hcf hc]
       (repeat (first | (with_reducible refine Rn.nI ⟨by omega,by omega⟩ ?_) | (with_reducible refine Rn.need (by assumption) ?_)))
       have hI:=IH (i+1) v1 (x::y).length 0 (c::l).length m (c::l) (by omega) rfl rfl hgi hf hs (by omega) (by omega)
       refine .bndT hI fun a ha=>?_
       (refine .cond (fun hs=>.need (Q2.g1 ha rfl hg1) (.need (Q2.g2 ha hf hs) (.ret ⟨a,by rw [hs];rfl,ha⟩))) (fun hs=>.need (Q2.g1 ha rfl hg1) (.ret ⟨a,by rw [hs];rfl,ha⟩)))
      ·unfold cnt;rw [show gB 1 ms (i*1) 0=false from hb];simp
   | cons a0 b0 =>
    refine .of (fun q=>qU1 (XT q) _ none some es ms xs m i v1 (x::y).length (x::y) v (a0::b0).length (a0::b0)) ?_
    simp only [hN]
    refine .decT (by omega) (.nX ⟨by omega,by omega⟩ (.need hld (.cond (fun hn=>?_) (fun hn=>?_))))
    ·have hn:nt es i=[]:=qY0 hn
     rw [hn] at hf hs ⊢
     refine .joinC (c:=cnt ms i=true) (fun hc=>?_) (fun j hj=>?_)
     ·rw [hct hc]
      (repeat (first | (with_reducible refine Rn.nI ⟨by omega,by omega⟩ ?_) | (with_reducible refine Rn.need (by assumption) ?_)))
      have hI:=IH (i+1) v1 (x::y).length v (a0::b0).length (m+1) (a0::b0) (by omega) rfl rfl hg hf hs (by omega) (by omega)
      refine .bndT hI fun a ha=>?_
      (refine .cond (fun hs=>.need (Q2.g1 ha rfl hg1) (.need (Q2.g2 ha hf hs) (.ret ⟨a,by rw [hs];rfl,ha⟩))) (fun hs=>.need (Q2.g1 ha rfl hg1) (.ret ⟨a,by rw [hs];rfl,ha⟩)))
     ·refine .dec (fun hc=>hj ?_) (fun hc=>.nX ⟨by omega,by omega⟩ (.need (E.ldm i (by omega)) (.cond (fun hb=>?_) (fun hb=>hj ?_))))
      ·unfold cnt;rw [decide_eq_true (by omega)];rfl
      ·have hc:cnt ms i=false:=by
        unfold cnt
        rw [decide_eq_false (by omega),show gB 1 ms (i*1) 0=true from hb];rfl
       rw [hcf hc]
       (repeat (first | (with_reducible refine Rn.nI ⟨by omega,by omega⟩ ?_) | (with_reducible refine Rn.need (by assumption) ?_)))
       have hI:=IH (i+1) v1 (x::y).length v (a0::b0).length m (a0::b0) (by omega) rfl rfl hg hf hs (by omega) (by omega)
       refine .bndT hI fun a ha=>?_
       (refine .cond (fun hs=>.need (Q2.g1 ha rfl hg1) (.need (Q2.g2 ha hf hs) (.ret ⟨a,by rw [hs];rfl,ha⟩))) (fun hs=>.need (Q2.g1 ha rfl hg1) (.ret ⟨a,by rw [hs];rfl,ha⟩)))
      ·unfold cnt;rw [show gB 1 ms (i*1) 0=false from hb];simp
    ·have hn:nt es i≠[]:=Ye0 hn
     have hga:=hg.app hgi
     rw [← List.append_assoc] at hf hs ⊢
     have hs2:=hs
     simp only [List.length_append] at hs2
     refine .need ⟨trivial,hn,trivial,by omega,by omega,by omega⟩ ?_
     refine .joinC (c:=cnt ms i=true) (fun hc=>?_) (fun j hj=>?_)
     ·rw [hct hc]
      (repeat (first | (with_reducible refine Rn.nI ⟨by omega,by omega⟩ ?_) | (with_reducible refine Rn.need (by assumption) ?_)))
      have hI:=IH (i+1) v1 (x::y).length (v+1) ((a0::b0).length+(nt es i).length) (m+1) (a0::b0++nt es i) (by omega) rfl (by rw [List.length_append]) hga hf hs (by omega) (by omega)
      refine .bndT hI fun a ha=>?_
      (refine .cond (fun hs=>.need (Q2.g1 ha rfl hg1) (.need (Q2.g2 ha hf hs) (.ret ⟨a,by rw [hs];rfl,ha⟩))) (fun hs=>.need (Q2.g1 ha rfl hg1) (.ret ⟨a,by rw [hs];rfl,ha⟩)))
     ·refine .dec (fun hc=>hj ?_) (fun hc=>.nX ⟨by omega,by omega⟩ (.need (E.ldm i (by omega)) (.cond (fun hb=>?_) (fun hb=>hj ?_))))
      ·unfold cnt;rw [decide_eq_true (by omega)];rfl
      ·have hc:cnt ms i=false:=by
        unfold cnt
        rw [decide_eq_false (by omega),show gB 1 ms (i*1) 0=true from hb];rfl
       rw [hcf hc]
       (repeat (first | (with_reducible refine Rn.nI ⟨by omega,by omega⟩ ?_) | (with_reducible refine Rn.need (by assumption) ?_)))
       have hI:=IH (i+1) v1 (x::y).length (v+1) ((a0::b0).length+(nt es i).length) m (a0::b0++nt es i) (by omega) rfl (by rw [List.length_append]) hga hf hs (by omega) (by omega)
       refine .bndT hI fun a ha=>?_
       (refine .cond (fun hs=>.need (Q2.g1 ha rfl hg1) (.need (Q2.g2 ha hf hs) (.ret ⟨a,by rw [hs];rfl,ha⟩))) (fun hs=>.need (Q2.g1 ha rfl hg1) (.ret ⟨a,by rw [hs];rfl,ha⟩)))
      ·unfold cnt;rw [show gB 1 ms (i*1) 0=false from hb];simp
/-- DATA: tokens, items, texts, numbers as elements of rows. -/
theorem yU0 {sz:Nat} {es:List V} {i j q:Nat} {e:V} (hz:j<sz) (he:es[i]?=some e):Qc0 sz es (i*sz+j) q=e.cells.getD (j+q) undef:=by
 have h1:(i*sz+j)/sz=i:=by rw [Nat.add_comm,Nat.add_mul_div_right _ _ (by omega),Nat.div_eq_of_lt hz,Nat.zero_add]
 have h2:(i*sz+j)%sz=j:=by rw [Nat.add_comm,Nat.add_mul_mod_self_right,Nat.mod_eq_of_lt hz]
 unfold Qc0
 rw [h1,h2,show es.getD i undef=e by rw [List.getD_eq_getElem?_getD,he];rfl]
theorem YY0 {sz:Nat} {es:List V} {i j k:Nat} {e:V} (hz:2≤sz) (hj:j<sz) (hk:j+k≤e.cells.length) (he:es[i]?=some e):qO0 sz es (i*sz+j) k=some ((e.cells.drop j).take k):=by
 have h1:(i*sz+j)/sz=i:=by rw [Nat.add_comm,Nat.add_mul_div_right _ _ (by omega),Nat.div_eq_of_lt hj,Nat.zero_add]
 have h2:(i*sz+j)%sz=j:=by rw [Nat.add_comm,Nat.add_mul_mod_self_right,Nat.mod_eq_of_lt hj]
 unfold qO0
 rw [show Nat.beq sz 1=false by
  cases hb:Nat.beq sz 1 with
  | false=>rfl
  | true=>have:=Nat.eq_of_beq_eq_true hb;omega]
 simp only [cond_false]
 rw [show Nat.div (i*sz+j) sz=i from h1,show Nat.mod (i*sz+j) sz=j from h2,List.at_eq,he]
 simp only [List.len_eq,List.takeN_eq,List.dropN_eq]
 rw [show Nat.ble (Nat.add j k) e.cells.length=true by rw [Nat.ble_eq];exact hk]
 rfl
theorem XO0 {es:List V} {i:Nat} {e:V} (he:es[i]?=some e):qO0 1 es (i*1) 1=some e.cells:=by
 rw [Nat.mul_one]
 unfold qO0
 change (match List.at es i with
  | none=>none
  | some e=>some e.cells)=_
 rw [List.at_eq,he]
section one
variable {es:List V} {i:Nat}
theorem ldX_s {w:List UInt8} (h:es[i]?=some (.str w)):ldX PP 9 1 es (i*1)∧ldC PP 9 1 es (i*1)∧gS 1 es (i*1) 0=w:=by
 have hg:gS 1 es (i*1) 0=w:=by
  unfold gS
  rw [show i*1=i*1+0 from rfl,yU0 (by omega) h];rfl
 have he:zr0 PP 9 1 es (i*1)=some (.str (gS 1 es (i*1) 0)):=by kernel_rfl
 have hl:load PP Heap.empty 9 (.gptr 1 es (i*1))=some (.str w):=by
  change yq0 PP 9 (qO0 1 es (i*1) 1)=_
  rw [XO0 h]
  kernel_rfl
 refine ⟨?_,?_,hg⟩
 ·unfold ldX;rw [he,hg,hl]
 ·unfold ldC jI0;rw [he,hg,hl];first | kernel_rfl | rfl
end one
def tokV (t:Int×List UInt8):V:=.agg [.int .i64 t.1,.str t.2]
structure It where
 k:Int
 w:List UInt8
 a:Int
 ns:List V
def itV (x:It):V:=.agg [.int .i64 x.k,.str x.w,.int .i64 x.a,.osl 1 x.ns]
section two
variable {es:List V} {i:Nat} {t:Int×List UInt8} (h:es[i]?=some (tokV t))
 include h
end two
section four
variable {es:List V} {i:Nat} {t:It} (h:es[i]?=some (itV t))
 include h
theorem it_g:gI 4 es (i*4) 0=t.k∧gS 4 es (i*4) 1=t.w∧gI 4 es (i*4) 2=t.a∧gE 4 es (i*4) 3=t.ns∧gE 4 es (i*4+2+1) 0=t.ns:=by
 refine ⟨?_,?_,?_,?_,?_⟩
 ·unfold gI;rw [show i*4=i*4+0 from rfl,yU0 (by omega) h];rfl
 ·unfold gS;rw [show i*4=i*4+0 from rfl,yU0 (by omega) h];rfl
 ·unfold gI;rw [show i*4=i*4+0 from rfl,yU0 (by omega) h];rfl
 ·unfold gE;rw [show i*4=i*4+0 from rfl,yU0 (by omega) h];rfl
 ·unfold gE;rw [show i*4+2+1=i*4+3 from rfl,yU0 (by omega) h];rfl
theorem it_ld:ldX PP 39 4 es (i*4)∧ldC PP 41 4 es (i*4)∧ldX PP 3 4 es (i*4):=by
 obtain ⟨g1,g2,g3,g4,_⟩:=it_g h
 have c4:qO0 4 es (i*4+0) 4=some [.int .i64 t.k,.str t.w,.int .i64 t.a,.osl 1 t.ns]:=by rw [YY0 (by omega) (by omega) (show 0+4≤4 by omega) h];rfl
 have c2:qO0 4 es (i*4+0) 2=some [.int .i64 t.k,.str t.w]:=by rw [YY0 (by omega) (by omega) (show 0+2≤4 by omega) h];rfl
 have c1:qO0 4 es (i*4+0) 1=some [.int .i64 t.k]:=by rw [YY0 (by omega) (by omega) (show 0+1≤4 by omega) h];rfl
 refine ⟨?_,?_,?_⟩
 ·have he:zr0 PP 39 4 es (i*4)=some (.agg [.int .i64 (gI 4 es (i*4) 0),.str (gS 4 es (i*4) 1)]):=by kernel_rfl
  unfold ldX;rw [he,g1,g2]
  change yq0 PP 39 (qO0 4 es (i*4+0) 2)=_
  rw [c2];first | kernel_rfl | rfl
 ·have he:zr0 PP 41 4 es (i*4)=some (.agg [.int .i64 (gI 4 es (i*4) 0),.str (gS 4 es (i*4) 1),.int .i64 (gI 4 es (i*4) 2),.osl 1 (gE 4 es (i*4) 3)]):=by kernel_rfl
  have hl:load PP Heap.empty 41 (.gptr 4 es (i*4))=some (.agg [.int .i64 t.k,.str t.w,.int .i64 t.a,.osl 1 t.ns]):=by
   change yq0 PP 41 (qO0 4 es (i*4+0) 4)=_
   rw [c4];first | kernel_rfl | rfl
  unfold ldC jI0;rw [he,g1,g2,g3,g4,hl];first | kernel_rfl | rfl
 ·have he:zr0 PP 3 4 es (i*4)=some (.int .i64 (gI 4 es (i*4) 0)):=by kernel_rfl
  unfold ldX;rw [he,g1]
  change yq0 PP 3 (qO0 4 es (i*4+0) 1)=_
  rw [c1];first | kernel_rfl | rfl
end four
theorem it_n {es:List V} {i:Nat} {t:It} (h:es[i]?=some (itV t)):ldC PP 28 4 es (Nat.add (i*4) 3):=by
 have g4:gE 4 es (i*4+3) 0=t.ns:=by unfold gE;rw [yU0 (by omega) h];rfl
 have he:zr0 PP 28 4 es (i*4+3)=some (.osl 1 (gE 4 es (i*4+3) 0)):=by kernel_rfl
 have hl:load PP Heap.empty 28 (.gptr 4 es (i*4+3))=some (.osl 1 t.ns):=by
  change yq0 PP 28 (qO0 4 es (i*4+3) 1)=_
  rw [YY0 (by omega) (by omega) (show 3+1≤4 by omega) h];first | kernel_rfl | rfl
 show ldC PP 28 4 es (i*4+3)
 unfold ldC jI0;rw [he,g4,hl];first | kernel_rfl | rfl
theorem ldX_o {es:List V} {i:Nat} {b:Bool} (h:es[i]?=some (.bool b)):ldX PP 4 1 es (i*1)∧ldC PP 4 1 es (i*1)∧gB 1 es (i*1) 0=b:=by
 have hg:gB 1 es (i*1) 0=b:=by
  unfold gB
  rw [show i*1=i*1+0 from rfl,yU0 (by omega) h];rfl
 have he:zr0 PP 4 1 es (i*1)=some (.bool (gB 1 es (i*1) 0)):=by kernel_rfl
 have hl:load PP Heap.empty 4 (.gptr 1 es (i*1))=some (.bool b):=by
  change yq0 PP 4 (qO0 1 es (i*1) 1)=_
  rw [XO0 h]
  kernel_rfl
 refine ⟨?_,?_,hg⟩
 ·unfold ldX;rw [he,hg,hl]
 ·unfold ldC jI0;rw [he,hg,hl];first | kernel_rfl | rfl
theorem KI0 {es:List V} {i:Nat} {l:List V} (h:es[i]?=some (.osl 1 l)):ldC PP 28 1 es (i*1)∧gE 1 es (i*1) 0=l:=by
 have hg:gE 1 es (i*1) 0=l:=by
  unfold gE
  rw [show i*1=i*1+0 from rfl,yU0 (by omega) h];rfl
 have he:zr0 PP 28 1 es (i*1)=some (.osl 1 (gE 1 es (i*1) 0)):=by kernel_rfl
 have hl:load PP Heap.empty 28 (.gptr 1 es (i*1))=some (.osl 1 l):=by
  change yq0 PP 28 (qO0 1 es (i*1) 1)=_
  rw [XO0 h]
  first | kernel_rfl | rfl
 refine ⟨?_,hg⟩
 unfold ldC jI0;rw [he,hg,hl];first | kernel_rfl | rfl
theorem Yj1 (l:List (List UInt8)):GndR (l.map V.str):=fun e he=>by
 obtain ⟨t,_,rfl⟩:=List.mem_map.1 he
 rfl
/-- All are the same texts. -/
noncomputable def t3 (v1 v2 n:Nat) (l:List V) (i:Int):Task:=.code (.loop (lpB PP 4 3)) ((base 4 112).on [(9,.sl 0 v1 0 n none),(11,.sl 1 v2 0 n none),(14,.int .i64 i)]) (hp [rwT v1 l,rwT v2 l])
theorem Xx0 {t:Task} (h:∃ r,(∃ a,r=rA3 (frO t) a.1 a)∧Tk t r):OkT (fun X=>X.A3 t) (fun _=>True):=by
 obtain ⟨r,⟨a,e⟩,hT⟩:=h
 obtain ⟨a',h1,h2⟩:=Kh0 (R:=fun a:Bool×Nat×Nat=>rA3 (frO t) a.1 a) (Q:=qN) a
 exact ⟨a',trivial,hT.mono fun n h=>by show exR _ _ (rn PP EP CP n t)=_;rw [show rn PP EP CP n t=_ from h,e];exact h2⟩
theorem a3_ok {v1 v2:Nat} {l:List V} (hg:GndR l) (hs:∀ i,i<l.length→ldX PP 9 1 l ((0+i)*1)) (hl:l.length≤1000000000) (d:Nat):∀ i:Nat,i+d=l.length→OkT (fun X=>X.A3 (t3 v1 v2 l.length l i)) (fun _=>True):=by
 induction d with
 | zero =>
  intro i hi
  exact Xx0 (Tk.byT (.of (fun m=>qV1 (XT m) _ none some i v1 l.length l v2 l.length l) (.decF (by omega) (.need hg (.need hg (.need GndR.nil (.need GndR.nil (.ret ⟨(true,v1,v2),rfl⟩))))))))
 | succ d IH =>
  intro i hi
  refine Xx0 (Tk.byT (.of (fun m=>qV1 (XT m) _ none some i v1 l.length l v2 l.length l) (.decT (by omega) (.need ⟨by omega,by omega⟩ (.need ⟨rfl,hs i (by omega)⟩ (.need ⟨by omega,by omega⟩ (.need ⟨rfl,hs i (by omega)⟩ (.ndec (fun h=>absurd rfl h) (fun _=>.nI ⟨by omega,by omega⟩ (.need hg (.need hg (.bndT (IH (i+1) (by omega)) fun a _=>.cond (fun hu=>?_) (fun hu=>?_)))))))))))))
  ·exact .need GndR.nil (.need GndR.nil (.ret ⟨a,by rw [hu];rfl⟩))
  ·exact .ret ⟨a,by rw [hu];rfl⟩
def jA0 (q:Sq):List V:=q.1++(match q.2 with
 | none=>[]
 | some (o,l)=>o.flatMap zM0++l)
theorem ZR1 (N:List V) (c:Bool) (q:Sq):jA0 (qG0 N c q)=jA0 q++N:=by
 obtain ⟨ld,x⟩:=q
 cases x with
 | none=>cases c <;> simp [jA0,qG0]
 | some p=>obtain ⟨o,l⟩:=p;cases c <;> simp [jA0,qG0,zM0]
theorem Xc1 (N:List V) (c:Bool) (q:Sq):qA0 (qG0 N c q)=qA0 q+c.toNat:=by
 obtain ⟨ld,x⟩:=q
 cases x with
 | none=>cases c <;> simp [qA0,qG0]
 | some p=>obtain ⟨o,l⟩:=p;cases c <;> simp [qA0,qG0]
theorem ZQ1 (es ms:List V) (d:Nat):∀ (n:Nat) (q:Sq),jA0 (qe0 es ms d n q)=jA0 q++zI0 es d n∧qA0 (qe0 es ms d n q)=qA0 q+zn0 ms d n:=by
 induction d with
 | zero=>intro n q;exact ⟨(List.append_nil _).symm,rfl⟩
 | succ d IH =>
  intro n q
  obtain ⟨h1,h2⟩:=IH (n+1) (qG0 (nt es n) (cnt ms n) q)
  rw [ZR1,List.append_assoc] at h1
  rw [Xc1] at h2
  exact ⟨h1,by rw [show qe0 es ms (d+1) n q=qe0 es ms d (n+1) (qG0 (nt es n) (cnt ms n) q) from rfl,h2];show _=qA0 q+((cnt ms n).toNat+zn0 ms d (n+1));omega⟩
theorem XS1 (q:Sq):(yQ0 q).1++(yQ0 q).2.flatMap zM0=jA0 q∧(yQ0 q).2.length=qA0 q:=by
 obtain ⟨ld,x⟩:=q
 cases x with
 | none=>exact ⟨rfl,rfl⟩
 | some p=>obtain ⟨o,l⟩:=p;exact ⟨by simp [yQ0,jA0,zM0],by simp [yQ0,qA0]⟩
def Ls (x:V):Prop:=∃ l,x=V.osl 1 l∧GndR l
def LsQ (q:Sq):Prop:=GndR q.1∧∀ o l,q.2=some (o,l)→(∀ x∈o,Ls x)∧GndR l
theorem ls_fin {es ms:List V} (E:En es ms) (d:Nat):∀ (n:Nat) (q:Sq),n+d=es.length→LsQ q→LsQ (qe0 es ms d n q):=by
 induction d with
 | zero=>intro n q _ h;exact h
 | succ d IH =>
  intro n q hn h
  refine IH (n+1) _ (by omega) ?_
  have hg:=E.gnt n (by omega)
  obtain ⟨ld,x⟩:=q
  obtain ⟨h1,h2⟩:=h
  cases x with
  | none =>
   cases cnt ms n
   ·exact ⟨h1.app hg,fun o l e=>by cases e⟩
   ·exact ⟨h1,fun o l e=>by cases e;exact ⟨(fun x hx=>by cases hx),hg⟩⟩
  | some p =>
   obtain ⟨o,l⟩:=p
   obtain ⟨h3,h4⟩:=h2 o l rfl
   cases cnt ms n
   ·exact ⟨h1,fun o' l' e=>by cases e;exact ⟨h3,h4.app hg⟩⟩
   ·exact ⟨h1,fun o' l' e=>by cases e;exact ⟨fun x hx=>(List.mem_append.1 hx).elim (h3 x) (fun hx=>⟨l,List.mem_singleton.1 hx,h4⟩),hg⟩⟩
theorem ls_res {q:Sq} (h:LsQ q):GndR (yQ0 q).1∧∀ x∈(yQ0 q).2,Ls x:=by
 obtain ⟨ld,x⟩:=q
 cases x with
 | none=>exact ⟨h.1,fun x hx=>by cases hx⟩
 | some p =>
  obtain ⟨o,l⟩:=p
  obtain ⟨h3,h4⟩:=h.2 o l rfl
  exact ⟨h.1,fun x hx=>(List.mem_append.1 hx).elim (h3 x) (fun hx=>⟨l,List.mem_singleton.1 hx,h4⟩)⟩
theorem Gy1 {xs:List V} (h:∀ x∈xs,Ls x) (d:Nat):∀ i,i+d=xs.length→xsN xs d i=(xs.drop i).flatMap zM0:=by
 induction d with
 | zero=>intro i hi;rw [List.drop_of_length_le (by omega)];rfl
 | succ d IH =>
  intro i hi
  have hlt:i<xs.length:=by omega
  obtain ⟨l,hl,_⟩:=h _ (List.getElem_mem hlt)
  show gE 1 xs (i*1) 0++xsN xs d (i+1)=_
  rw [IH (i+1) (by omega),List.drop_eq_getElem_cons hlt,List.flatMap_cons,(KI0 (l:=l) (by rw [List.getElem?_eq_getElem hlt,hl])).2,hl]
  rfl
theorem Xf.of {xs:List V} (h:∀ x∈xs,Ls x) (hl:xs.length≤1000000000):Xf xs where
 len:=hl
 ld:=fun i hi=>by
  obtain ⟨l,hl,_⟩:=h _ (List.getElem_mem hi)
  exact (KI0 (l:=l) (by rw [List.getElem?_eq_getElem hi,hl])).1
 gn:=fun i hi=>by
  obtain ⟨l,hl,hg⟩:=h _ (List.getElem_mem hi)
  rw [(KI0 (l:=l) (by rw [List.getElem?_eq_getElem hi,hl])).2];exact hg
theorem jP1 (es:List V) (d:Nat):∀ n,(zI0 es d n).length=szQ es d n:=by
 induction d with
 | zero=>intro n;rfl
 | succ d IH=>intro n;show (nt es n++zI0 es d (n+1)).length=_;rw [List.length_append,IH];rfl
theorem QK1 (ms:List V) (d:Nat):∀ n,zn0 ms d n≤d:=by
 induction d with
 | zero=>intro n;exact Nat.le_refl _
 | succ d IH=>intro n;show (cnt ms n).toNat+zn0 ms d (n+1)≤_;have:=IH (n+1);have:=Bool.toNat_le (cnt ms n);omega
theorem Gi1 {l:List V} (h:∀ x∈l,∃ s,x=V.str s) (i:Nat) (hi:i<l.length):ldX PP 9 1 l ((0+i)*1):=by
 obtain ⟨s,hs⟩:=h _ (List.getElem_mem hi)
 rw [Nat.zero_add]
 exact (ldX_s (w:=s) (by rw [List.getElem?_eq_getElem hi,hs])).1
theorem a3_nil:OkT (fun X=>X.A3 (.code (.loop (lpB PP 4 3)) ((base 4 112).on [(9,.nils),(11,.nils),(14,.int .i64 0)]) Heap.empty)) (fun _=>True) :=
 Xx0 (Tk.byT (.of (fun m=>Zt1 (XT m) _ none some) (.ret ⟨(false,0,0),rfl⟩)))
theorem law_ok {es ms:List V} (E:Ef es ms) (hstr:∀ x∈zI0 es es.length 0,∃ s,x=V.str s):∃ r,r=Res.ret (.bool true) Heap.empty∧Tk (.call 4 [.osl 4 es,.osl 1 ms] Heap.empty) r:=by
 have hl:=E.len
 have hsm:=E.small
 obtain ⟨f1,f2⟩:=ZQ1 es ms es.length 0 ([],none)
 have hq:=ls_fin E.toEn es.length 0 ([],none) (by omega) ⟨GndR.nil,fun _ _ e=>by cases e⟩
 obtain ⟨r1,r2⟩:=XS1 (qe0 es ms es.length 0 ([],none))
 obtain ⟨q1,q2⟩:=ls_res hq
 have hlen:(spQ es ms).2.length=zn0 ms es.length 0:=by show (yQ0 _).2.length=_;rw [r2,f2];show 0+_=_;omega
 have hcl:=QK1 ms es.length 0
 have X:Xf (spQ es ms).2:=Xf.of q2 (by omega)
 have hx:=Gy1 (xs:=(spQ es ms).2) q2 (spQ es ms).2.length 0 (by omega)
 have hA1:(spQ es ms).1++xsN (spQ es ms).2 (spQ es ms).2.length 0=zI0 es es.length 0:=by
  rw [hx,List.drop_zero]
  exact r1.trans f1
 have hal:=jP1 es es.length 0
 have hm:((zn0 ms es.length 0:Nat):Int)=0+(zn0 ms es.length 0:Nat):=by omega
 refine Tk.byT (.of (fun q=>Zu1 (XT q) _ none some es ms) ?_)
 refine .bndT (a0_ok E es.length 0 0 (by omega) (by omega) (by omega)) (fun a ha=>?_)
 subst ha
 refine .dec (fun _=>.ret rfl) (fun _=>.dec (fun _=>.ret rfl) (fun _=>?_))
 refine .bndT (KO1 E.toEn (by omega)) (fun a ha=>?_)
 subst ha
 refine .jo ?_
 cases hA:zI0 es es.length 0 with
 | nil =>
  rw [hA] at hA1
  obtain ⟨h1,h2⟩:=List.append_eq_nil_iff.1 hA1
  have ha:=Xv0 (es:=es) (ms:=ms) X (spQ es ms).2.length 0 0 0 [] (by omega) rfl GndR.nil (by rw [h2];exact GndR.nil) (by rw [h2];exact Nat.zero_le _)
  rw [h2] at ha
  rw [h1]
  refine .ct (.bndT ha (fun b hb=>?_))
  ( have hu:=hb.u;rw [hb.es,hb.ms,hb.xs,hu];refine .cf ?_;have h2:=Xw0 (ms:=ms) (xs:=(spQ es ms).2) E GndR.nil (List.length es) 0 0 0 0 0 0 [] (by omega) rfl rfl GndR.nil (by rw [hA];exact GndR.nil) (by rw [hA];exact Nat.zero_le _) (by omega) (by omega);refine .bndT h2 (fun c hc=>?_);have hs:=hc.s;rw [hA] at hs;rw [hs,hc.xs,hc.m,hlen];refine .cf ?_;refine .ndec (fun h=>absurd hm h) (fun _=>?_);exact .bndT a3_nil (fun x _=>.cond (fun _=>.ret rfl) (fun _=>.ret rfl)))
 | cons x y =>
  have hg:GndR (x::y):=by
   rw [← hA,← hA1,hx]
   refine GndR.app q1 (fun e he=>?_)
   obtain ⟨z,hz,he⟩:=List.mem_flatMap.1 he
   obtain ⟨l,rfl,hgl⟩:=q2 z (List.mem_of_mem_drop hz)
   exact hgl e he
  have hst:=Gi1 hstr
  rw [hA] at hst
  have hle:(x::y).length≤1000000000:=by rw [← hA,hal];omega
  refine .cond (fun hn=>?_) (fun hn=>?_)
  ·have hn:(spQ es ms).1=[]:=qY0 hn
   rw [hn] at hA1
   have ha:=Xv0 (es:=es) (ms:=ms) X (spQ es ms).2.length 0 0 0 [] (by omega) rfl GndR.nil (by rw [hA1,hA];exact hg) (by rw [hA1,hA];exact hle)
   rw [hA1] at ha
   refine .bndT ha (fun b hb=>?_)
   ( have hu:=hb.u;rw [hA] at hu;obtain ⟨l1,l2⟩:=hb.l hu;rw [hA] at l1 l2;rw [hb.es,hb.ms,hb.xs,hu,l1,l2];refine .ct ?_;have h2:=Xw0 (ms:=ms) (xs:=(spQ es ms).2) E hg (List.length es) 0 b.v1 _ 0 0 0 [] (by omega) rfl rfl GndR.nil (by rw [hA];exact hg) (by rw [hA];exact hle) (by omega) (by omega);refine .bndT h2 (fun d hd=>?_);have hs:=hd.s;rw [hA] at hs;obtain ⟨k1,k2⟩:=hd.k hs;obtain ⟨p1,p2⟩:=hd.l rfl;rw [hA] at k1 k2;rw [hs,hd.xs,hd.m,hlen,k1,k2,p1,p2];refine .ct ?_;refine .ndec (fun h=>absurd rfl h) (fun _=>?_);refine .ndec (fun h=>absurd hm h) (fun _=>?_);exact .bndT (a3_ok hg hst hle _ 0 (by rw [Nat.zero_add])) (fun x _=>.cond (fun _=>.ret rfl) (fun _=>.ret rfl)))
  ·obtain ⟨c,k,hck⟩:=XQ0 hn
   have hld:(spQ es ms).1.length≤1000000000:=by
    have:=congrArg List.length hA1
    rw [List.length_append,hA] at this
    omega
   have ha:=Xv0 (es:=es) (ms:=ms) X (spQ es ms).2.length 0 0 (spQ es ms).1.length (spQ es ms).1 (by omega) rfl q1 (by rw [hA1,hA];exact hg) (by rw [hA1,hA];exact hle)
   rw [hA1] at ha
   refine .need ⟨Ye0 hn,by omega,by omega⟩ ?_
   rw [hck] at ha ⊢
   refine .bndT ha (fun b hb=>?_)
   ( have hu:=hb.u;rw [hA] at hu;obtain ⟨l1,l2⟩:=hb.l hu;rw [hA] at l1 l2;rw [hb.es,hb.ms,hb.xs,hu,l1,l2];refine .ct ?_;have h2:=Xw0 (ms:=ms) (xs:=(spQ es ms).2) E hg (List.length es) 0 b.v1 _ 0 0 0 [] (by omega) rfl rfl GndR.nil (by rw [hA];exact hg) (by rw [hA];exact hle) (by omega) (by omega);refine .bndT h2 (fun d hd=>?_);have hs:=hd.s;rw [hA] at hs;obtain ⟨k1,k2⟩:=hd.k hs;obtain ⟨p1,p2⟩:=hd.l rfl;rw [hA] at k1 k2;rw [hs,hd.xs,hd.m,hlen,k1,k2,p1,p2];refine .ct ?_;refine .ndec (fun h=>absurd rfl h) (fun _=>?_);refine .ndec (fun h=>absurd hm h) (fun _=>?_);exact .bndT (a3_ok hg hst hle _ 0 (by rw [Nat.zero_add])) (fun x _=>.cond (fun _=>.ret rfl) (fun _=>.ret rfl)))
def Ky1:T Bool:=(.n (.n (.n (.n (.n (.n .e false (.n (.n (.n .e true .e) true .e) true .e)) false (.n (.n (.n (.n .e true .e) true .e) false (.n (.n .e true .e) true .e)) false (.n (.n .e true .e) false .e))) false (.n (.n (.n (.n (.n .e true .e) true .e) false .e) true (.n .e false (.n .e true .e))) false (.n (.n (.n .e true .e) true (.n (.n .e true .e) true .e)) true .e))) false (.n (.n (.n (.n (.n .e true .e) true .e) false (.n (.n .e true .e) true (.n .e true .e))) false (.n (.n (.n .e true .e) false (.n (.n .e true .e) true .e)) false (.n (.n (.n .e true .e) true .e) false .e))) false (.n (.n (.n (.n .e true .e) false .e) false (.n .e true (.n .e true .e))) true (.n (.n (.n (.n .e true .e) true .e) false (.n .e true .e)) false (.n (.n (.n .e true .e) true .e) true .e))))) false (.n (.n (.n (.n (.n (.n (.n .e true .e) true .e) false .e) false (.n (.n .e true .e) true (.n .e true .e))) false (.n (.n (.n .e true .e) true (.n (.n .e true .e) true .e)) false (.n (.n (.n .e true .e) false .e) false .e))) false (.n (.n (.n (.n .e true .e) false (.n .e true .e)) false (.n .e true (.n .e true .e))) false (.n (.n (.n .e true .e) false (.n .e true .e)) true (.n (.n (.n .e true .e) true .e) false .e)))) false (.n (.n (.n (.n (.n .e true .e) true .e) true (.n (.n (.n .e true .e) true .e) true (.n .e true .e))) false (.n (.n (.n (.n .e true .e) false .e) false (.n .e true .e)) true (.n (.n (.n .e true .e) true .e) false (.n .e true .e)))) false (.n (.n (.n (.n .e true .e) false .e) false (.n (.n .e true .e) false (.n .e true .e))) false (.n (.n (.n (.n .e true .e) true .e) false (.n .e true .e)) true (.n .e true .e)))))) false (.n (.n (.n (.n (.n (.n (.n .e true .e) false (.n (.n .e true .e) false .e)) false (.n (.n .e true .e) false .e)) false (.n (.n (.n .e true .e) true (.n (.n .e true .e) false .e)) false .e)) false (.n (.n (.n (.n .e true .e) false .e) false (.n (.n (.n .e true .e) true .e) true (.n .e true .e))) false (.n (.n (.n .e true .e) false (.n .e true .e)) true (.n .e false (.n .e true .e))))) false (.n (.n (.n (.n (.n (.n .e true .e) true .e) true (.n (.n .e true .e) false .e)) false (.n (.n .e true .e) false (.n .e true .e))) false (.n (.n (.n (.n .e true .e) false .e) false (.n .e true .e)) false (.n (.n (.n .e true .e) false .e) true .e))) false (.n (.n (.n (.n .e true .e) false .e) false (.n (.n (.n .e true .e) false .e) true .e)) true (.n (.n (.n (.n .e true .e) true .e) false (.n .e true .e)) true (.n (.n .e true .e) false .e))))) false (.n (.n (.n (.n (.n (.n .e true .e) false (.n (.n .e true .e) false .e)) false (.n (.n .e true .e) true (.n .e true .e))) false (.n (.n (.n (.n .e true .e) false .e) false (.n (.n .e true .e) true .e)) false (.n (.n .e true .e) false .e))) false (.n (.n (.n (.n (.n .e true .e) true .e) true .e) false (.n (.n (.n .e true .e) false .e) true (.n .e true .e))) true (.n (.n (.n (.n .e true .e) true .e) false (.n .e true .e)) false (.n (.n .e true .e) true .e)))) false (.n (.n (.n (.n (.n (.n .e true .e) true .e) false .e) false (.n (.n .e true .e) true (.n .e true .e))) false (.n (.n .e false (.n .e true .e)) true (.n (.n (.n .e true .e) false .e) true .e))) false (.n (.n (.n (.n (.n .e true .e) true .e) false (.n .e true .e)) false .e) false (.n (.n (.n .e true .e) true .e) false (.n (.n (.n .e true .e) false .e) true (.n .e true .e))))))))
def XB1:T Bool:=(.n (.n (.n (.n (.n (.n .e false (.n (.n (.n .e true .e) true .e) false .e)) false (.n (.n (.n (.n .e true .e) false .e) false .e) false .e)) false (.n (.n .e false (.n .e false (.n .e true .e))) false (.n (.n (.n .e true .e) false .e) false .e))) false (.n (.n (.n .e false (.n .e true .e)) false (.n .e false (.n (.n (.n .e true .e) false .e) false .e))) false (.n (.n .e false (.n .e false (.n .e true .e))) false (.n (.n (.n (.n .e true .e) true .e) false (.n .e true .e)) false .e)))) false (.n (.n (.n (.n .e false (.n .e false (.n .e true .e))) false .e) false (.n (.n .e false (.n .e true (.n .e true .e))) false (.n (.n (.n .e true .e) false (.n .e true .e)) false .e))) false (.n (.n (.n .e false (.n (.n .e true .e) false (.n .e true .e))) false (.n (.n .e false (.n .e true .e)) false (.n (.n (.n .e true .e) false .e) false .e))) false (.n .e false (.n (.n (.n (.n .e true .e) true .e) false .e) false .e))))) false (.n (.n (.n (.n (.n (.n .e false (.n (.n .e true .e) false .e)) false .e) false (.n (.n .e true .e) false .e)) false (.n (.n .e false (.n .e true .e)) false (.n (.n (.n .e true .e) false .e) false .e))) false (.n (.n (.n .e false (.n (.n .e true .e) false .e)) false (.n (.n (.n (.n .e true .e) false .e) false (.n .e true .e)) false (.n (.n (.n .e true .e) false .e) true .e))) false (.n .e false (.n (.n (.n (.n .e true .e) true .e) false .e) false .e)))) false (.n (.n (.n (.n .e false (.n (.n .e true .e) false (.n .e true .e))) false (.n (.n (.n (.n .e true .e) false .e) false .e) false .e)) false (.n (.n .e false (.n .e true (.n .e true .e))) false (.n (.n (.n (.n .e true .e) true .e) false (.n .e true .e)) false .e))) false (.n (.n .e false (.n (.n .e false (.n .e true .e)) false (.n (.n (.n .e true .e) false .e) false .e))) false (.n (.n (.n (.n (.n .e true .e) false .e) false .e) false .e) false (.n (.n (.n .e true .e) false .e) false .e))))))
noncomputable def EK0:Env:={ shared:=T.get false Ky1,pubRet:=T.get false XB1,prim:=fun _ _=>none,glob:=Jn0,data:=fun f=>Nat.beq f 34||Nat.beq f 8||Nat.beq f 33 }
theorem names:yh0 Tryz.prog:=JC1 (by kernel_rfl)
theorem snd0:Snd Tryz.prog EK0 (run Tryz.prog EK0 1000000):=GC0 names (Xq1 rfl) _
theorem Qb1:qg1=asciiZ.map (V.int .u8):=by kernel_rfl
def GO0:List (List UInt8×V):=[([97,110,100,32,97,115,32,98,114,101,97,107,32,99,97,116,99,104,32,100,101,102,32,101,108,105,102,32,101,108,115,101,32,101,110,100,32,102,111,114,101,97,99,104,32,105,102,32,105,109,112,111,114,116,32,105,110,99,108,117,100,101,32,108,97,98,101,108,32,109,111,100,117,108,101,32,111,114,32,114,101,100,117,99,101,32,116,104,101,110,32,116,114,121],(.fsl 9 1 0 [(.str [97,110,100]),(.str [97,115]),(.str [98,114,101,97,107]),(.str [99,97,116,99,104]),(.str [100,101,102]),(.str [101,108,105,102]),(.str [101,108,115,101]),(.str [101,110,100]),(.str [102,111,114,101,97,99,104]),(.str [105,102]),(.str [105,109,112,111,114,116]),(.str [105,110,99,108,117,100,101]),(.str [108,97,98,101,108]),(.str [109,111,100,117,108,101]),(.str [111,114]),(.str [114,101,100,117,99,101]),(.str [116,104,101,110]),(.str [116,114,121])] (.some 18))),([124],(.fsl 9 1 0 [(.str [124])] (.some 1))),([44],(.fsl 9 1 0 [(.str [44])] (.some 1))),([47,47],(.fsl 9 1 0 [(.str [47,47])] (.some 1))),([61,32,124,61,32,43,61,32,45,61,32,42,61,32,47,61,32,37,61,32,47,47,61],(.fsl 9 1 0 [(.str [61]),(.str [124,61]),(.str [43,61]),(.str [45,61]),(.str [42,61]),(.str [47,61]),(.str [37,61]),(.str [47,47,61])] (.some 8))),([111,114],(.fsl 9 1 0 [(.str [111,114])] (.some 1))),([97,110,100],(.fsl 9 1 0 [(.str [97,110,100])] (.some 1))),([61,61,32,33,61,32,60,32,60,61,32,62,32,62,61],(.fsl 9 1 0 [(.str [61,61]),(.str [33,61]),(.str [60]),(.str [60,61]),(.str [62]),(.str [62,61])] (.some 6))),([43,32,45],(.fsl 9 1 0 [(.str [43]),(.str [45])] (.some 2))),([42,32,47,32,37],(.fsl 9 1 0 [(.str [42]),(.str [47]),(.str [37])] (.some 3)))]
theorem jw1:ckT Tryz.prog EK0 1000000 317 GO0=true:=by kernel_rfl
def KT0:List (FuncId×List (List UInt8×V)):=[(317,GO0)]
noncomputable def E1:Env:={ EK0 with prim:=Yk0 KT0 [] }
theorem prim1:yi0 Tryz.prog E1:=KV0 (TT:=KT0) (T0:=[]) rfl (fun p hp=>by
 simp only [KT0,List.mem_cons,List.not_mem_nil,or_false] at hp
 subst hp
 exact ZR0 snd0 jw1
 ) (fun q hq=>by cases hq)
theorem snd1:Snd Tryz.prog E1 (run Tryz.prog E1 1000000):=GC0 names prim1 _
def jx1:List (List UInt8×V):=[([],(.int .i64 0)),([124],(.int .i64 1)),([44],(.int .i64 2)),([47,47],(.int .i64 3)),([61],(.int .i64 4)),([124,61],(.int .i64 4)),([43,61],(.int .i64 4)),([45,61],(.int .i64 4)),([42,61],(.int .i64 4)),([47,61],(.int .i64 4)),([37,61],(.int .i64 4)),([47,47,61],(.int .i64 4)),([111,114],(.int .i64 5)),([97,110,100],(.int .i64 6)),([61,61],(.int .i64 7)),([33,61],(.int .i64 7)),([60],(.int .i64 7)),([60,61],(.int .i64 7)),([62],(.int .i64 7)),([62,61],(.int .i64 7)),([43],(.int .i64 8)),([45],(.int .i64 8)),([42],(.int .i64 9)),([47],(.int .i64 9)),([37],(.int .i64 9))]
theorem Gj1:ckT Tryz.prog E1 1000000 199 jx1=true:=by kernel_rfl
def jy1:List (List UInt8×V):=[([],(.int .i64 0)),([124],(.int .i64 1)),([44],(.int .i64 3)),([47,47],(.int .i64 3)),([61],(.int .i64 5)),([124,61],(.int .i64 5)),([43,61],(.int .i64 5)),([45,61],(.int .i64 5)),([42,61],(.int .i64 5)),([47,61],(.int .i64 5)),([37,61],(.int .i64 5)),([47,47,61],(.int .i64 5)),([111,114],(.int .i64 6)),([97,110,100],(.int .i64 7)),([61,61],(.int .i64 8)),([33,61],(.int .i64 8)),([60],(.int .i64 8)),([60,61],(.int .i64 8)),([62],(.int .i64 8)),([62,61],(.int .i64 8)),([43],(.int .i64 9)),([45],(.int .i64 9)),([42],(.int .i64 10)),([47],(.int .i64 10)),([37],(.int .i64 10))]
theorem Gk1:ckT Tryz.prog E1 1000000 259 jy1=true:=by kernel_rfl
def tSide:List (List UInt8×V):=[([],(.int .i64 0)),([124],(.int .i64 2)),([44],(.int .i64 1)),([47,47],(.int .i64 2)),([61],(.int .i64 0)),([124,61],(.int .i64 0)),([43,61],(.int .i64 0)),([45,61],(.int .i64 0)),([42,61],(.int .i64 0)),([47,61],(.int .i64 0)),([37,61],(.int .i64 0)),([47,47,61],(.int .i64 0)),([111,114],(.int .i64 1)),([97,110,100],(.int .i64 1)),([61,61],(.int .i64 0)),([33,61],(.int .i64 0)),([60],(.int .i64 0)),([60,61],(.int .i64 0)),([62],(.int .i64 0)),([62,61],(.int .i64 0)),([43],(.int .i64 1)),([45],(.int .i64 1)),([42],(.int .i64 1)),([47],(.int .i64 1)),([37],(.int .i64 1))]
theorem Gl1:ckT Tryz.prog E1 1000000 289 tSide=true:=by kernel_rfl
def KU0:List (FuncId×List (List UInt8×V)):=[(317,GO0),(199,jx1),(259,jy1),(289,tSide)]
noncomputable def E2:Env:={ EK0 with prim:=Yk0 KU0 [] }
theorem prim2:yi0 Tryz.prog E2:=KV0 (TT:=KU0) (T0:=[]) rfl (fun p hp=>by
 simp only [KU0,List.mem_cons,List.not_mem_nil,or_false] at hp
 rcases hp with rfl | rfl | rfl | rfl
 ·exact ZR0 snd0 jw1
 ·exact ZR0 snd1 Gj1
 ·exact ZR0 snd1 Gk1
 ·exact ZR0 snd1 Gl1
 ) (fun q hq=>by cases hq)
theorem snd2:Snd Tryz.prog E2 (run Tryz.prog E2 1000000):=GC0 names prim2 _
theorem globOk {S:Nat→Nat→Option Value} (h:∀ i,i<256→S 3 i=some (.int .u8 (asciiZ.getD i 0))):GlobOk Jn0 S:=by
 intro gl x hx
 unfold Jn0 at hx
 obtain ⟨hb,hx⟩:=qd0 hx rfl
 rw [Nat.beq_eq] at hb;subst hb
 cases hx
 rw [Qb1]
 exact tab_gr (by kernel_rfl) (by decide) h
def known0:List (FuncId×V):=[(11,.bool true)]
theorem YL1:ck0 Tryz.prog E2 1000000 known0=true:=by kernel_rfl
theorem Xp1:∀ q,q∈Gi0→PureOk PP EP.glob q.1 [] q.2:=QJ1 snd2 YL1
theorem primP:yi0 PP EP:=KV0 (TT:=[]) (T0:=Gi0) rfl (fun p hp=>by cases hp) Xp1
/-- A machine's run is a contract. -/
theorem cx_rn {P:Program} {E:Env} {C:Cf} {N:Nat} {f:FuncId} {args:List V} {h h':Heap} {v:V} (hr:rn P E C N (.call f args h)=.ret v h') {R':V→Heap→Prop} (hR:R' v h'):Cx P E f args h R':=fun hF _ _ _ _ cs us hW hG hs=>⟨v,h',hR,by
 have:=(rn_snd (C:=C) hF.names hF.prim N).call cs f args us hW hG hs
 rw [hr] at this
 exact this⟩
section law
variable {l:List (Int×List UInt8×Int×List (List UInt8))}
theorem KE0 (n:Nat) (h:n<l.length):(l.map qS0)[n]?=some (itV ⟨l[n].1,l[n].2.1,l[n].2.2.1,l[n].2.2.2.map V.str⟩):=by
 rw [List.getElem?_map,List.getElem?_eq_getElem h];rfl
theorem KF0 (n:Nat) (h:n<l.length):nt (l.map qS0) n=l[n].2.2.2.map V.str:=(it_g (KE0 n h)).2.2.2.1
theorem it_sz (d:Nat):∀ n,n+d=l.length→szQ (l.map qS0) d n+d=((l.drop n).map fun i=>1+i.2.2.2.length).sum:=by
 induction d with
 | zero=>intro n h;rw [List.drop_of_length_le (by omega)];rfl
 | succ d IH =>
  intro n h
  have hn:n<l.length:=by omega
  have:=IH (n+1) (by omega)
  rw [List.drop_eq_getElem_cons hn,List.map_cons,List.sum_cons,← this]
  show (nt (l.map qS0) n).length+szQ _ d (n+1)+(d+1)=_
  rw [KF0 n hn,List.length_map];omega
theorem it_all (d:Nat):∀ n,n+d=l.length→∀ x∈zI0 (l.map qS0) d n,∃ s,x=V.str s:=by
 induction d with
 | zero=>intro n _ x hx;cases hx
 | succ d IH =>
  intro n h x hx
  rcases List.mem_append.1 hx with hx | hx
  ·rw [KF0 n (by omega)] at hx
   obtain ⟨s,_,rfl⟩:=List.mem_map.1 hx
   exact ⟨s,rfl⟩
  ·exact IH (n+1) (by omega) x hx
theorem it_ef {ms:List Bool} (h:(l.map fun i=>1+i.2.2.2.length).sum≤1048576):Ef (l.map qS0) (ms.map V.bool):=by
 have hs:=it_sz (l:=l) l.length 0 (by omega)
 rw [List.drop_zero] at hs
 have hl:(l.map qS0).length=l.length:=List.length_map ..
 refine ⟨⟨by omega,fun n hn=>?_,fun n hn=>?_,fun n hn=>?_⟩,fun n hn=>?_,fun n hn=>?_,by rw [hl];omega⟩
 ·exact (it_ld (KE0 n (by omega))).2.1
 ·rw [List.length_map] at hn;exact (ldX_o (b:=ms[n]) (by rw [List.getElem?_map,List.getElem?_eq_getElem hn];rfl)).1
 ·rw [KF0 n (by omega)];exact Yj1 _
 ·exact it_n (KE0 n (by omega))
 ·rw [List.length_map] at hn;exact (ldX_o (b:=ms[n]) (by rw [List.getElem?_map,List.getElem?_eq_getElem hn];rfl)).2.1
end law
theorem tidyNotes_walk (l0:List (Int×List UInt8×Int×List (List UInt8))) (h0:(l0.map fun i=>1+i.2.2.2.length).sum≤1048576) (l1:List Bool):Cx PP EP 4 [.osl 4 (l0.map qS0),.osl 1 (l1.map V.bool)] Heap.empty (fun v _=>v=.bool true):=by
 obtain ⟨r,rfl,n,h⟩:=law_ok (it_ef (ms:=l1) h0) (by rw [List.length_map];exact it_all l0.length 0 (by omega))
 exact cx_rn (h n (Nat.le_refl n)) rfl
end Go.AM
