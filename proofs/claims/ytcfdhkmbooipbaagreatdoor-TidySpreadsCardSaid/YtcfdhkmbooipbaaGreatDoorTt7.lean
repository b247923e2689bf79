/-
  WHAT FUNCTIONS OF THE PROGRAM COME TO, told by the machine, and plain laws of it. No condition but what each theorem says of its arguments.
-/
import Derived.Test.YtcfdhkmbooipbaaGreatDoorTt6
namespace Go.AM
open Go.Proofs
set_option maxRecDepth 100000
set_option maxHeartbeats 4000000
theorem qi0 {l:List V} (h:GndR l) (b:Bool) (k:Nat):GndR (bif b then [] else List.takeN l k):=by
 cases b with
 | true=>exact GndR.nil
 | false=>exact h.take k
theorem Out.set {es ms:List V} {q0 q1 q:Sq} {a:Sp} (h:Out es ms q1 q a) {o:List V} {c:V} {l:List V} (e:q0.2=some (o,c::l)) (v p:Nat) {l4:List V} (hg:GndR l4):Out es ms q0 q { a with w:=true,v4:=v,p4:=p,l4:=l4 } :=
 ⟨h.es,h.ms,h.u,h.l1,h.s,h.o,(fun _ _=>⟨o,c::l,e,fun e=>by cases e⟩),h.g1,h.g2,(fun _ _=>hg),(fun _ _ _ _ _=>rfl)⟩
theorem jG0 {es ms ld o:List V} {q:Sq} {a:Sp} {e:Nat→Option Res} {Q:Res→Prop} (h:Out es ms (ld,some (o,[])) q a) (hs:a.s=true) (hw:a.w=true):Rn e Q:=by
 obtain ⟨o',l',e,hl⟩:=h.w hs hw
 cases e
 exact absurd rfl hl
theorem jF0 {es ms ld o l:List V} {c:V} {q:Sq} {a:Sp} {e:Nat→Option Res} {Q:Res→Prop} (h:Out es ms (ld,some (o,c::l)) q a) (ht:a.t=false) (hw:a.w=false):Rn e Q:=Rn.abs (h.v _ _ rfl (fun e=>by cases e) ht) hw
theorem rD {es ms:List V} (E:En es ms) {d n v1 n1 v2 n2 k v3 n3:Nat} {c0:V} {o l0:List V} (h:OkQ es (d+1) n ([],some (o,c0::l0))) (IH:Nx es ms d (n+1)) (h2:n2=o.length+1) (hk:k=o.length) (h3:n3=(c0::l0).length) :
 Rn (fun m=>evN PP EP CP (zc0 (XT m)) (rn PP EP CP m) none (lpT es n (hS es ms v1 n1 v2 n2 k v3 n3 ([],some (o,c0::l0)))) some) (QS ((base 28 29).on [(0,.func (.yield 6) [] []),(2,.ptr 4 0 0),(6,.osl 4 es),(7,.int .i64 es.length),(8,.int .i64 n)]) (Out es ms ([],some (o,c0::l0)) (qa0 es ms (d+1) n ([],some (o,c0::l0))))):=by
 subst h2 hk h3
 refine .of (fun m=>zI1 (XT m) _ none some es ms n v2 (o.length+1) o.length o v3 (c0::l0).length (c0::l0)) ?_
 have e0:Nat.add (o.length+1) 1=o.length+1+1:=rfl
 have e1:(0+Int.toNat ((↑(o.length+1+1):Int)-1))*1=o.length+1:=by omega
 have e2:(o++[V.osl 1 (c0::l0)]).length=o.length+1:=by simp
 have hN:gE 4 es (Int.toNat (n:Int)*4) 3=nt es n:=rfl
 have hgl:GndR (c0::l0):=(h.g2 o (c0::l0) rfl).2
 have hcc:GndR (bif Nat.beq (Nat.max 0 (c0::l0).length) 0 then [] else List.takeN (bif Nat.beq (Nat.max 0 (c0::l0).length) 0 then [] else List.takeN (c0::l0) (Nat.max 0 (c0::l0).length)) (Nat.max 0 (c0::l0).length)):=qi0 (qi0 hgl _ _) _ _
 have hlt:n<es.length:=by have:=h.at';omega
 have hl:=E.len
 have ho:o.length+1≤n:=h.out
 simp only [e0,e1,e2,hN]
 refine .decT (by omega) (.nX ⟨by omega,by omega⟩ (.need (E.ldc n hlt) ?_))
 have hgo:GndR (o++[V.osl 1 (c0::l0)]):=(h.g2 o (c0::l0) rfl).1.app (jk0 (c0::l0))
 refine .joinC (c:=cnt ms n=true) (fun hc=>?_) (fun j hj=>?_)
 ·have hf:qa0 es ms (d+1) n ([],some (o,c0::l0))=qa0 es ms d (n+1) ([],some (o++[V.osl 1 (c0::l0)],nt es n)):=by
   show qa0 es ms d (n+1) (qe0 _ (cnt ms n) _)=_
   rw [hc];rfl
  have hq:OkQ es d (n+1) ([],some (o++[V.osl 1 (c0::l0)],nt es n)):=h.next E true
  rw [hf]
  have hsz:(nt es n).length≤68719476736:=by have:=hq.sum;simp only [qG0,List.length_append] at this;omega
  have hgN:=E.gnt n hlt
  refine .nG rfl hgl (.need ⟨trivial,trivial,trivial,by omega,by omega,by omega⟩ (.nI ⟨by omega,by omega⟩ (.need ⟨by omega,by omega⟩ (.need ⟨trivial,by omega⟩ ?_))))
  refine .cond (fun hn=>?_) (fun hn=>?_)
  ·have hn:=qI0 hn
   rw [hn] at hq ⊢
   refine .need ⟨trivial,by omega,by omega⟩ (.need rfl (.nI ⟨by omega,by omega⟩ ?_))
   (repeat (with_reducible refine Rn.need (show GndR _ by (with_reducible first | assumption | exact qi0 (by assumption) _ _ | exact qi0 (qi0 (by assumption) _ _) _ _)) ?_))
   refine .bndT (IH 0 0 (v2+1) (o.length+1+1) (o.length+1) 0 0 _ hq rfl (by simp [qx0]) (by simp [qx0]) rfl) (fun a ha=>?_)
   try unfold fS3
   repeat' (with_reducible first | refine Rn.need (Out.gl1 ha (by assumption)) ?_ | refine Rn.need (Out.gl2 ha (by assumption)) ?_ | refine Rn.need (Out.gl3 ha (by assumption) (by assumption)) ?_ | refine Rn.need (Out.g4 ha (by assumption) (by assumption)) ?_ | refine Rn.need (show GndR _ by (with_reducible first | assumption | exact qi0 (by assumption) _ _ | exact qi0 (qi0 (by assumption) _ _) _ _)) ?_ | refine Rn.cond (fun _=>?_) (fun _=>?_) | refine Rn.jo ?_)
   all_goals (first | exact jG0 ha (by assumption) (by assumption) | exact jF0 ha (by assumption) (by assumption) | exact Rn.abs (by assumption) (Out.us ha).1 | exact Rn.abs (Out.us ha).1 (by assumption) | exact Rn.abs (Out.us ha).2 (by assumption) | (refine Rn.ret (QS.mk { a with w:=false } ?_ (Out.now ha ?_));rotate_left;(first | (intro _ _ e hl;cases e;done) | (intro _ _ e hl;cases e;exact absurd rfl hl) | (intro _ _ _ _;assumption));show _=rSp _ (Sp.s a) (Sp.t a) (Sp.u a) false _;(first | (rw [‹Sp.s a=true›,‹Sp.t a=true›,‹Sp.u a=true›];rfl) | (rw [‹Sp.s a=true›,‹Sp.t a=true›,‹Sp.u a=false›];rfl) | (rw [‹Sp.s a=true›,‹Sp.t a=false›,‹Sp.u a=true›];rfl) | (rw [‹Sp.s a=true›,‹Sp.t a=false›,‹Sp.u a=false›];rfl) | (rw [‹Sp.s a=false›,‹Sp.t a=true›,‹Sp.u a=true›];rfl) | (rw [‹Sp.s a=false›,‹Sp.t a=true›,‹Sp.u a=false›];rfl) | (rw [‹Sp.s a=false›,‹Sp.t a=false›,‹Sp.u a=true›];rfl) | (rw [‹Sp.s a=false›,‹Sp.t a=false›,‹Sp.u a=false›];rfl))) | (refine Rn.ret (QS.mk { a with w:=true,v4:=_,p4:=_,l4:=_ } (by show _=rSp _ (Sp.s a) (Sp.t a) (Sp.u a) true _;first | (rw [‹Sp.s a=true›,‹Sp.t a=true›,‹Sp.u a=true›];rfl) | (rw [‹Sp.s a=true›,‹Sp.t a=true›,‹Sp.u a=false›];rfl) | (rw [‹Sp.s a=true›,‹Sp.t a=false›,‹Sp.u a=true›];rfl) | (rw [‹Sp.s a=true›,‹Sp.t a=false›,‹Sp.u a=false›];rfl)) (Out.set ha rfl _ _ (by first | exact hcc | exact Out.g4 ha (by assumption) (by assumption) | exact qi0 (Out.g4 ha (by assumption) (by assumption)) _ _)))))
  ·obtain ⟨c,l,hcl⟩:∃ c l,nt es n=c::l:=by
    cases hx:nt es n with
    | nil=>rw [hx] at hn;cases hn
    | cons c l=>exact ⟨c,l,rfl⟩
   rw [hcl] at hq hsz hgN ⊢
   refine .need ⟨(fun e=>by cases e),by omega,by omega⟩ (.need ⟨trivial,by omega,by omega⟩ (.need rfl (.nI ⟨by omega,by omega⟩ ?_)))
   (repeat (with_reducible refine Rn.need (show GndR _ by (with_reducible first | assumption | exact qi0 (by assumption) _ _ | exact qi0 (qi0 (by assumption) _ _) _ _)) ?_))
   refine .bndT (IH 0 0 (v2+1) (o.length+1+1) (o.length+1) 0 (c::l).length _ hq rfl (by simp [qx0]) (by simp [qx0]) rfl) (fun a ha=>?_)
   try unfold fS3
   repeat' (with_reducible first | refine Rn.need (Out.gl1 ha (by assumption)) ?_ | refine Rn.need (Out.gl2 ha (by assumption)) ?_ | refine Rn.need (Out.gl3 ha (by assumption) (by assumption)) ?_ | refine Rn.need (Out.g4 ha (by assumption) (by assumption)) ?_ | refine Rn.need (show GndR _ by (with_reducible first | assumption | exact qi0 (by assumption) _ _ | exact qi0 (qi0 (by assumption) _ _) _ _)) ?_ | refine Rn.cond (fun _=>?_) (fun _=>?_) | refine Rn.jo ?_)
   all_goals (first | exact jG0 ha (by assumption) (by assumption) | exact jF0 ha (by assumption) (by assumption) | exact Rn.abs (by assumption) (Out.us ha).1 | exact Rn.abs (Out.us ha).1 (by assumption) | exact Rn.abs (Out.us ha).2 (by assumption) | (refine Rn.ret (QS.mk { a with w:=false } ?_ (Out.now ha ?_));rotate_left;(first | (intro _ _ e hl;cases e;done) | (intro _ _ e hl;cases e;exact absurd rfl hl) | (intro _ _ _ _;assumption));show _=rSp _ (Sp.s a) (Sp.t a) (Sp.u a) false _;(first | (rw [‹Sp.s a=true›,‹Sp.t a=true›,‹Sp.u a=true›];rfl) | (rw [‹Sp.s a=true›,‹Sp.t a=true›,‹Sp.u a=false›];rfl) | (rw [‹Sp.s a=true›,‹Sp.t a=false›,‹Sp.u a=true›];rfl) | (rw [‹Sp.s a=true›,‹Sp.t a=false›,‹Sp.u a=false›];rfl) | (rw [‹Sp.s a=false›,‹Sp.t a=true›,‹Sp.u a=true›];rfl) | (rw [‹Sp.s a=false›,‹Sp.t a=true›,‹Sp.u a=false›];rfl) | (rw [‹Sp.s a=false›,‹Sp.t a=false›,‹Sp.u a=true›];rfl) | (rw [‹Sp.s a=false›,‹Sp.t a=false›,‹Sp.u a=false›];rfl))) | (refine Rn.ret (QS.mk { a with w:=true,v4:=_,p4:=_,l4:=_ } (by show _=rSp _ (Sp.s a) (Sp.t a) (Sp.u a) true _;first | (rw [‹Sp.s a=true›,‹Sp.t a=true›,‹Sp.u a=true›];rfl) | (rw [‹Sp.s a=true›,‹Sp.t a=true›,‹Sp.u a=false›];rfl) | (rw [‹Sp.s a=true›,‹Sp.t a=false›,‹Sp.u a=true›];rfl) | (rw [‹Sp.s a=true›,‹Sp.t a=false›,‹Sp.u a=false›];rfl)) (Out.set ha rfl _ _ (by first | exact hcc | exact Out.g4 ha (by assumption) (by assumption) | exact qi0 (Out.g4 ha (by assumption) (by assumption)) _ _)))))
 ·refine .dec (fun hc=>hj ?_) (fun hc=>.nX ⟨by omega,by omega⟩ (.need (E.ldx n (by omega)) (.cond (fun hb=>?_) (fun hb=>hj ?_))))
  ·unfold cnt;rw [decide_eq_true (by omega)];rfl
  ·have hc:cnt ms n=false:=by
    unfold cnt
    rw [decide_eq_false (by omega),show gB 1 ms (n*1) 0=true from hb];rfl
   have hf:qa0 es ms (d+1) n ([],some (o,c0::l0))=qa0 es ms d (n+1) ([],some (o,(c0::l0)++nt es n)):=by
    show qa0 es ms d (n+1) (qe0 _ (cnt ms n) _)=_
    rw [hc];rfl
   have hq:OkQ es d (n+1) ([],some (o,(c0::l0)++nt es n)):=h.next E false
   rw [hf]
   have hsz:(nt es n).length≤68719476736:=by have:=hq.sum;simp only [qG0,List.length_append] at this;omega
   have hgN:=E.gnt n hlt
   have hgo:=(h.g2 o (c0::l0) rfl).1
   refine .need ⟨trivial,by omega⟩ ?_
   refine .cond (fun hn=>?_) (fun hn=>?_)
   ·have hn:=qI0 hn
    rw [hn,List.append_nil] at hq
    rw [hn,List.append_nil]
    refine .need ⟨trivial,by omega,by omega⟩ (.need rfl (.nI ⟨by omega,by omega⟩ ?_))
    (repeat (with_reducible refine Rn.need (show GndR _ by (with_reducible first | assumption | exact qi0 (by assumption) _ _ | exact qi0 (qi0 (by assumption) _ _) _ _)) ?_))
    refine .bndT (IH 0 0 v2 (o.length+1) o.length v3 (c0::l0).length _ hq rfl rfl rfl rfl) (fun a ha=>?_)
    try unfold fS3
    repeat' (with_reducible first | refine Rn.need (Out.gl1 ha (by assumption)) ?_ | refine Rn.need (Out.gl2 ha (by assumption)) ?_ | refine Rn.need (Out.gl3 ha (by assumption) (by assumption)) ?_ | refine Rn.need (Out.g4 ha (by assumption) (by assumption)) ?_ | refine Rn.need (show GndR _ by (with_reducible first | assumption | exact qi0 (by assumption) _ _ | exact qi0 (qi0 (by assumption) _ _) _ _)) ?_ | refine Rn.cond (fun _=>?_) (fun _=>?_) | refine Rn.jo ?_)
    all_goals (first | exact jG0 ha (by assumption) (by assumption) | exact jF0 ha (by assumption) (by assumption) | exact Rn.abs (by assumption) (Out.us ha).1 | exact Rn.abs (Out.us ha).1 (by assumption) | exact Rn.abs (Out.us ha).2 (by assumption) | (refine Rn.ret (QS.mk { a with w:=false } ?_ (Out.now ha ?_));rotate_left;(first | (intro _ _ e hl;cases e;done) | (intro _ _ e hl;cases e;exact absurd rfl hl) | (intro _ _ _ _;assumption));show _=rSp _ (Sp.s a) (Sp.t a) (Sp.u a) false _;(first | (rw [‹Sp.s a=true›,‹Sp.t a=true›,‹Sp.u a=true›];rfl) | (rw [‹Sp.s a=true›,‹Sp.t a=true›,‹Sp.u a=false›];rfl) | (rw [‹Sp.s a=true›,‹Sp.t a=false›,‹Sp.u a=true›];rfl) | (rw [‹Sp.s a=true›,‹Sp.t a=false›,‹Sp.u a=false›];rfl) | (rw [‹Sp.s a=false›,‹Sp.t a=true›,‹Sp.u a=true›];rfl) | (rw [‹Sp.s a=false›,‹Sp.t a=true›,‹Sp.u a=false›];rfl) | (rw [‹Sp.s a=false›,‹Sp.t a=false›,‹Sp.u a=true›];rfl) | (rw [‹Sp.s a=false›,‹Sp.t a=false›,‹Sp.u a=false›];rfl))) | (refine Rn.ret (QS.mk { a with w:=true,v4:=_,p4:=_,l4:=_ } (by show _=rSp _ (Sp.s a) (Sp.t a) (Sp.u a) true _;first | (rw [‹Sp.s a=true›,‹Sp.t a=true›,‹Sp.u a=true›];rfl) | (rw [‹Sp.s a=true›,‹Sp.t a=true›,‹Sp.u a=false›];rfl) | (rw [‹Sp.s a=true›,‹Sp.t a=false›,‹Sp.u a=true›];rfl) | (rw [‹Sp.s a=true›,‹Sp.t a=false›,‹Sp.u a=false›];rfl)) (Out.set ha rfl _ _ (by first | exact hcc | exact Out.g4 ha (by assumption) (by assumption) | exact qi0 (Out.g4 ha (by assumption) (by assumption)) _ _)))))
   ·obtain ⟨c,l,hcl⟩:∃ c l,nt es n=c::l:=by
     cases hx:nt es n with
     | nil=>rw [hx] at hn;cases hn
     | cons c l=>exact ⟨c,l,rfl⟩
    rw [hcl] at hq hsz hgN ⊢
    have hga:GndR (c0::l0++c::l):=hgl.app hgN
    have hsa:(c0::l0).length+(c::l).length≤68719476736:=by have:=hq.sum;simp only [qG0,List.length_append] at this;omega
    refine .need ⟨trivial,(fun e=>by cases e),trivial,by omega,by omega,by omega⟩ (.need ⟨trivial,by omega,by omega⟩ (.need rfl (.nI ⟨by omega,by omega⟩ ?_)))
    (repeat (with_reducible refine Rn.need (show GndR _ by (with_reducible first | assumption | exact qi0 (by assumption) _ _ | exact qi0 (qi0 (by assumption) _ _) _ _)) ?_))
    refine .bndT (IH 0 0 v2 (o.length+1) o.length (v3+1) ((c0::l0).length+(c::l).length) _ hq rfl rfl rfl (by simp [qG0];omega)) (fun a ha=>?_)
    try unfold fS3
    repeat' (with_reducible first | refine Rn.need (Out.gl1 ha (by assumption)) ?_ | refine Rn.need (Out.gl2 ha (by assumption)) ?_ | refine Rn.need (Out.gl3 ha (by assumption) (by assumption)) ?_ | refine Rn.need (Out.g4 ha (by assumption) (by assumption)) ?_ | refine Rn.need (show GndR _ by (with_reducible first | assumption | exact qi0 (by assumption) _ _ | exact qi0 (qi0 (by assumption) _ _) _ _)) ?_ | refine Rn.cond (fun _=>?_) (fun _=>?_) | refine Rn.jo ?_)
    all_goals (first | exact jG0 ha (by assumption) (by assumption) | exact jF0 ha (by assumption) (by assumption) | exact Rn.abs (by assumption) (Out.us ha).1 | exact Rn.abs (Out.us ha).1 (by assumption) | exact Rn.abs (Out.us ha).2 (by assumption) | (refine Rn.ret (QS.mk { a with w:=false } ?_ (Out.now ha ?_));rotate_left;(first | (intro _ _ e hl;cases e;done) | (intro _ _ e hl;cases e;exact absurd rfl hl) | (intro _ _ _ _;assumption));show _=rSp _ (Sp.s a) (Sp.t a) (Sp.u a) false _;(first | (rw [‹Sp.s a=true›,‹Sp.t a=true›,‹Sp.u a=true›];rfl) | (rw [‹Sp.s a=true›,‹Sp.t a=true›,‹Sp.u a=false›];rfl) | (rw [‹Sp.s a=true›,‹Sp.t a=false›,‹Sp.u a=true›];rfl) | (rw [‹Sp.s a=true›,‹Sp.t a=false›,‹Sp.u a=false›];rfl) | (rw [‹Sp.s a=false›,‹Sp.t a=true›,‹Sp.u a=true›];rfl) | (rw [‹Sp.s a=false›,‹Sp.t a=true›,‹Sp.u a=false›];rfl) | (rw [‹Sp.s a=false›,‹Sp.t a=false›,‹Sp.u a=true›];rfl) | (rw [‹Sp.s a=false›,‹Sp.t a=false›,‹Sp.u a=false›];rfl))) | (refine Rn.ret (QS.mk { a with w:=true,v4:=_,p4:=_,l4:=_ } (by show _=rSp _ (Sp.s a) (Sp.t a) (Sp.u a) true _;first | (rw [‹Sp.s a=true›,‹Sp.t a=true›,‹Sp.u a=true›];rfl) | (rw [‹Sp.s a=true›,‹Sp.t a=true›,‹Sp.u a=false›];rfl) | (rw [‹Sp.s a=true›,‹Sp.t a=false›,‹Sp.u a=true›];rfl) | (rw [‹Sp.s a=true›,‹Sp.t a=false›,‹Sp.u a=false›];rfl)) (Out.set ha rfl _ _ (by first | exact hcc | exact Out.g4 ha (by assumption) (by assumption) | exact qi0 (Out.g4 ha (by assumption) (by assumption)) _ _)))))
  ·unfold cnt;rw [show gB 1 ms (n*1) 0=false from hb];simp
theorem rF {es ms:List V} (E:En es ms) {d n v1 n1 v2 n2 k v3 n3:Nat} {x c0:V} {y o l0:List V} (h:OkQ es (d+1) n (x::y,some (o,c0::l0))) (IH:Nx es ms d (n+1)) (h1:n1=(x::y).length) (h2:n2=o.length+1) (hk:k=o.length) (h3:n3=(c0::l0).length) :
 Rn (fun m=>evN PP EP CP (zc0 (XT m)) (rn PP EP CP m) none (lpT es n (hS es ms v1 n1 v2 n2 k v3 n3 (x::y,some (o,c0::l0)))) some) (QS ((base 28 29).on [(0,.func (.yield 6) [] []),(2,.ptr 4 0 0),(6,.osl 4 es),(7,.int .i64 es.length),(8,.int .i64 n)]) (Out es ms (x::y,some (o,c0::l0)) (qa0 es ms (d+1) n (x::y,some (o,c0::l0))))):=by
 subst h1 h2 hk h3
 refine .of (fun m=>zK1 (XT m) _ none some es ms n v1 (x::y).length (x::y) v2 (o.length+1) o.length o v3 (c0::l0).length (c0::l0)) ?_
 have e0:Nat.add (o.length+1) 1=o.length+1+1:=rfl
 have e1:(0+Int.toNat ((↑(o.length+1+1):Int)-1))*1=o.length+1:=by omega
 have e2:(o++[V.osl 1 (c0::l0)]).length=o.length+1:=by simp
 have hN:gE 4 es (Int.toNat (n:Int)*4) 3=nt es n:=rfl
 have hgl:GndR (c0::l0):=(h.g2 o (c0::l0) rfl).2
 have hcc:GndR (bif Nat.beq (Nat.max 0 (c0::l0).length) 0 then [] else List.takeN (bif Nat.beq (Nat.max 0 (c0::l0).length) 0 then [] else List.takeN (c0::l0) (Nat.max 0 (c0::l0).length)) (Nat.max 0 (c0::l0).length)):=qi0 (qi0 hgl _ _) _ _
 have hgx:GndR (x::y):=h.g1
 have hlt:n<es.length:=by have:=h.at';omega
 have hl:=E.len
 have ho:o.length+1≤n:=h.out
 simp only [e0,e1,e2,hN]
 refine .decT (by omega) (.nX ⟨by omega,by omega⟩ (.need (E.ldc n hlt) ?_))
 have hgo:GndR (o++[V.osl 1 (c0::l0)]):=(h.g2 o (c0::l0) rfl).1.app (jk0 (c0::l0))
 refine .joinC (c:=cnt ms n=true) (fun hc=>?_) (fun j hj=>?_)
 ·have hf:qa0 es ms (d+1) n (x::y,some (o,c0::l0))=qa0 es ms d (n+1) (x::y,some (o++[V.osl 1 (c0::l0)],nt es n)):=by
   show qa0 es ms d (n+1) (qe0 _ (cnt ms n) _)=_
   rw [hc];rfl
  have hq:OkQ es d (n+1) (x::y,some (o++[V.osl 1 (c0::l0)],nt es n)):=h.next E true
  rw [hf]
  have hsz:(nt es n).length≤68719476736:=by have:=hq.sum;simp only [qG0,List.length_append] at this;omega
  have hgN:=E.gnt n hlt
  refine .nG rfl hgl (.need ⟨trivial,trivial,trivial,by omega,by omega,by omega⟩ (.nI ⟨by omega,by omega⟩ (.need ⟨by omega,by omega⟩ (.need ⟨trivial,by omega⟩ ?_))))
  refine .cond (fun hn=>?_) (fun hn=>?_)
  ·have hn:=qI0 hn
   rw [hn] at hq ⊢
   refine .need ⟨trivial,by omega,by omega⟩ (.need rfl (.nI ⟨by omega,by omega⟩ ?_))
   (repeat (with_reducible refine Rn.need (show GndR _ by (with_reducible first | assumption | exact qi0 (by assumption) _ _ | exact qi0 (qi0 (by assumption) _ _) _ _)) ?_))
   refine .bndT (IH v1 (x::y).length (v2+1) (o.length+1+1) (o.length+1) 0 0 _ hq rfl (by simp [qx0]) (by simp [qx0]) rfl) (fun a ha=>?_)
   try unfold fS3
   repeat' (with_reducible first | refine Rn.need (Out.gl1 ha (by assumption)) ?_ | refine Rn.need (Out.gl2 ha (by assumption)) ?_ | refine Rn.need (Out.gl3 ha (by assumption) (by assumption)) ?_ | refine Rn.need (Out.g4 ha (by assumption) (by assumption)) ?_ | refine Rn.need (show GndR _ by (with_reducible first | assumption | exact qi0 (by assumption) _ _ | exact qi0 (qi0 (by assumption) _ _) _ _)) ?_ | refine Rn.cond (fun _=>?_) (fun _=>?_) | refine Rn.jo ?_)
   all_goals (first | exact jG0 ha (by assumption) (by assumption) | exact jF0 ha (by assumption) (by assumption) | exact Rn.abs (by assumption) (Out.us ha).1 | exact Rn.abs (Out.us ha).1 (by assumption) | exact Rn.abs (Out.us ha).2 (by assumption) | (refine Rn.ret (QS.mk { a with w:=false } ?_ (Out.now ha ?_));rotate_left;(first | (intro _ _ e hl;cases e;done) | (intro _ _ e hl;cases e;exact absurd rfl hl) | (intro _ _ _ _;assumption));show _=rSp _ (Sp.s a) (Sp.t a) (Sp.u a) false _;(first | (rw [‹Sp.s a=true›,‹Sp.t a=true›,‹Sp.u a=true›];rfl) | (rw [‹Sp.s a=true›,‹Sp.t a=true›,‹Sp.u a=false›];rfl) | (rw [‹Sp.s a=true›,‹Sp.t a=false›,‹Sp.u a=true›];rfl) | (rw [‹Sp.s a=true›,‹Sp.t a=false›,‹Sp.u a=false›];rfl) | (rw [‹Sp.s a=false›,‹Sp.t a=true›,‹Sp.u a=true›];rfl) | (rw [‹Sp.s a=false›,‹Sp.t a=true›,‹Sp.u a=false›];rfl) | (rw [‹Sp.s a=false›,‹Sp.t a=false›,‹Sp.u a=true›];rfl) | (rw [‹Sp.s a=false›,‹Sp.t a=false›,‹Sp.u a=false›];rfl))) | (refine Rn.ret (QS.mk { a with w:=true,v4:=_,p4:=_,l4:=_ } (by show _=rSp _ (Sp.s a) (Sp.t a) (Sp.u a) true _;first | (rw [‹Sp.s a=true›,‹Sp.t a=true›,‹Sp.u a=true›];rfl) | (rw [‹Sp.s a=true›,‹Sp.t a=true›,‹Sp.u a=false›];rfl) | (rw [‹Sp.s a=true›,‹Sp.t a=false›,‹Sp.u a=true›];rfl) | (rw [‹Sp.s a=true›,‹Sp.t a=false›,‹Sp.u a=false›];rfl)) (Out.set ha rfl _ _ (by first | exact hcc | exact Out.g4 ha (by assumption) (by assumption) | exact qi0 (Out.g4 ha (by assumption) (by assumption)) _ _)))))
  ·obtain ⟨c,l,hcl⟩:∃ c l,nt es n=c::l:=by
    cases hx:nt es n with
    | nil=>rw [hx] at hn;cases hn
    | cons c l=>exact ⟨c,l,rfl⟩
   rw [hcl] at hq hsz hgN ⊢
   refine .need ⟨(fun e=>by cases e),by omega,by omega⟩ (.need ⟨trivial,by omega,by omega⟩ (.need rfl (.nI ⟨by omega,by omega⟩ ?_)))
   (repeat (with_reducible refine Rn.need (show GndR _ by (with_reducible first | assumption | exact qi0 (by assumption) _ _ | exact qi0 (qi0 (by assumption) _ _) _ _)) ?_))
   refine .bndT (IH v1 (x::y).length (v2+1) (o.length+1+1) (o.length+1) 0 (c::l).length _ hq rfl (by simp [qx0]) (by simp [qx0]) rfl) (fun a ha=>?_)
   try unfold fS3
   repeat' (with_reducible first | refine Rn.need (Out.gl1 ha (by assumption)) ?_ | refine Rn.need (Out.gl2 ha (by assumption)) ?_ | refine Rn.need (Out.gl3 ha (by assumption) (by assumption)) ?_ | refine Rn.need (Out.g4 ha (by assumption) (by assumption)) ?_ | refine Rn.need (show GndR _ by (with_reducible first | assumption | exact qi0 (by assumption) _ _ | exact qi0 (qi0 (by assumption) _ _) _ _)) ?_ | refine Rn.cond (fun _=>?_) (fun _=>?_) | refine Rn.jo ?_)
   all_goals (first | exact jG0 ha (by assumption) (by assumption) | exact jF0 ha (by assumption) (by assumption) | exact Rn.abs (by assumption) (Out.us ha).1 | exact Rn.abs (Out.us ha).1 (by assumption) | exact Rn.abs (Out.us ha).2 (by assumption) | (refine Rn.ret (QS.mk { a with w:=false } ?_ (Out.now ha ?_));rotate_left;(first | (intro _ _ e hl;cases e;done) | (intro _ _ e hl;cases e;exact absurd rfl hl) | (intro _ _ _ _;assumption));show _=rSp _ (Sp.s a) (Sp.t a) (Sp.u a) false _;(first | (rw [‹Sp.s a=true›,‹Sp.t a=true›,‹Sp.u a=true›];rfl) | (rw [‹Sp.s a=true›,‹Sp.t a=true›,‹Sp.u a=false›];rfl) | (rw [‹Sp.s a=true›,‹Sp.t a=false›,‹Sp.u a=true›];rfl) | (rw [‹Sp.s a=true›,‹Sp.t a=false›,‹Sp.u a=false›];rfl) | (rw [‹Sp.s a=false›,‹Sp.t a=true›,‹Sp.u a=true›];rfl) | (rw [‹Sp.s a=false›,‹Sp.t a=true›,‹Sp.u a=false›];rfl) | (rw [‹Sp.s a=false›,‹Sp.t a=false›,‹Sp.u a=true›];rfl) | (rw [‹Sp.s a=false›,‹Sp.t a=false›,‹Sp.u a=false›];rfl))) | (refine Rn.ret (QS.mk { a with w:=true,v4:=_,p4:=_,l4:=_ } (by show _=rSp _ (Sp.s a) (Sp.t a) (Sp.u a) true _;first | (rw [‹Sp.s a=true›,‹Sp.t a=true›,‹Sp.u a=true›];rfl) | (rw [‹Sp.s a=true›,‹Sp.t a=true›,‹Sp.u a=false›];rfl) | (rw [‹Sp.s a=true›,‹Sp.t a=false›,‹Sp.u a=true›];rfl) | (rw [‹Sp.s a=true›,‹Sp.t a=false›,‹Sp.u a=false›];rfl)) (Out.set ha rfl _ _ (by first | exact hcc | exact Out.g4 ha (by assumption) (by assumption) | exact qi0 (Out.g4 ha (by assumption) (by assumption)) _ _)))))
 ·refine .dec (fun hc=>hj ?_) (fun hc=>.nX ⟨by omega,by omega⟩ (.need (E.ldx n (by omega)) (.cond (fun hb=>?_) (fun hb=>hj ?_))))
  ·unfold cnt;rw [decide_eq_true (by omega)];rfl
  ·have hc:cnt ms n=false:=by
    unfold cnt
    rw [decide_eq_false (by omega),show gB 1 ms (n*1) 0=true from hb];rfl
   have hf:qa0 es ms (d+1) n (x::y,some (o,c0::l0))=qa0 es ms d (n+1) (x::y,some (o,(c0::l0)++nt es n)):=by
    show qa0 es ms d (n+1) (qe0 _ (cnt ms n) _)=_
    rw [hc];rfl
   have hq:OkQ es d (n+1) (x::y,some (o,(c0::l0)++nt es n)):=h.next E false
   rw [hf]
   have hsz:(nt es n).length≤68719476736:=by have:=hq.sum;simp only [qG0,List.length_append] at this;omega
   have hgN:=E.gnt n hlt
   have hgo:=(h.g2 o (c0::l0) rfl).1
   refine .need ⟨trivial,by omega⟩ ?_
   refine .cond (fun hn=>?_) (fun hn=>?_)
   ·have hn:=qI0 hn
    rw [hn,List.append_nil] at hq
    rw [hn,List.append_nil]
    refine .need ⟨trivial,by omega,by omega⟩ (.need rfl (.nI ⟨by omega,by omega⟩ ?_))
    (repeat (with_reducible refine Rn.need (show GndR _ by (with_reducible first | assumption | exact qi0 (by assumption) _ _ | exact qi0 (qi0 (by assumption) _ _) _ _)) ?_))
    refine .bndT (IH v1 (x::y).length v2 (o.length+1) o.length v3 (c0::l0).length _ hq rfl rfl rfl rfl) (fun a ha=>?_)
    try unfold fS3
    repeat' (with_reducible first | refine Rn.need (Out.gl1 ha (by assumption)) ?_ | refine Rn.need (Out.gl2 ha (by assumption)) ?_ | refine Rn.need (Out.gl3 ha (by assumption) (by assumption)) ?_ | refine Rn.need (Out.g4 ha (by assumption) (by assumption)) ?_ | refine Rn.need (show GndR _ by (with_reducible first | assumption | exact qi0 (by assumption) _ _ | exact qi0 (qi0 (by assumption) _ _) _ _)) ?_ | refine Rn.cond (fun _=>?_) (fun _=>?_) | refine Rn.jo ?_)
    all_goals (first | exact jG0 ha (by assumption) (by assumption) | exact jF0 ha (by assumption) (by assumption) | exact Rn.abs (by assumption) (Out.us ha).1 | exact Rn.abs (Out.us ha).1 (by assumption) | exact Rn.abs (Out.us ha).2 (by assumption) | (refine Rn.ret (QS.mk { a with w:=false } ?_ (Out.now ha ?_));rotate_left;(first | (intro _ _ e hl;cases e;done) | (intro _ _ e hl;cases e;exact absurd rfl hl) | (intro _ _ _ _;assumption));show _=rSp _ (Sp.s a) (Sp.t a) (Sp.u a) false _;(first | (rw [‹Sp.s a=true›,‹Sp.t a=true›,‹Sp.u a=true›];rfl) | (rw [‹Sp.s a=true›,‹Sp.t a=true›,‹Sp.u a=false›];rfl) | (rw [‹Sp.s a=true›,‹Sp.t a=false›,‹Sp.u a=true›];rfl) | (rw [‹Sp.s a=true›,‹Sp.t a=false›,‹Sp.u a=false›];rfl) | (rw [‹Sp.s a=false›,‹Sp.t a=true›,‹Sp.u a=true›];rfl) | (rw [‹Sp.s a=false›,‹Sp.t a=true›,‹Sp.u a=false›];rfl) | (rw [‹Sp.s a=false›,‹Sp.t a=false›,‹Sp.u a=true›];rfl) | (rw [‹Sp.s a=false›,‹Sp.t a=false›,‹Sp.u a=false›];rfl))) | (refine Rn.ret (QS.mk { a with w:=true,v4:=_,p4:=_,l4:=_ } (by show _=rSp _ (Sp.s a) (Sp.t a) (Sp.u a) true _;first | (rw [‹Sp.s a=true›,‹Sp.t a=true›,‹Sp.u a=true›];rfl) | (rw [‹Sp.s a=true›,‹Sp.t a=true›,‹Sp.u a=false›];rfl) | (rw [‹Sp.s a=true›,‹Sp.t a=false›,‹Sp.u a=true›];rfl) | (rw [‹Sp.s a=true›,‹Sp.t a=false›,‹Sp.u a=false›];rfl)) (Out.set ha rfl _ _ (by first | exact hcc | exact Out.g4 ha (by assumption) (by assumption) | exact qi0 (Out.g4 ha (by assumption) (by assumption)) _ _)))))
   ·obtain ⟨c,l,hcl⟩:∃ c l,nt es n=c::l:=by
     cases hx:nt es n with
     | nil=>rw [hx] at hn;cases hn
     | cons c l=>exact ⟨c,l,rfl⟩
    rw [hcl] at hq hsz hgN ⊢
    have hga:GndR (c0::l0++c::l):=hgl.app hgN
    have hsa:(c0::l0).length+(c::l).length≤68719476736:=by have:=hq.sum;simp only [qG0,List.length_append] at this;omega
    refine .need ⟨trivial,(fun e=>by cases e),trivial,by omega,by omega,by omega⟩ (.need ⟨trivial,by omega,by omega⟩ (.need rfl (.nI ⟨by omega,by omega⟩ ?_)))
    (repeat (with_reducible refine Rn.need (show GndR _ by (with_reducible first | assumption | exact qi0 (by assumption) _ _ | exact qi0 (qi0 (by assumption) _ _) _ _)) ?_))
    refine .bndT (IH v1 (x::y).length v2 (o.length+1) o.length (v3+1) ((c0::l0).length+(c::l).length) _ hq rfl rfl rfl (by simp [qG0];omega)) (fun a ha=>?_)
    try unfold fS3
    repeat' (with_reducible first | refine Rn.need (Out.gl1 ha (by assumption)) ?_ | refine Rn.need (Out.gl2 ha (by assumption)) ?_ | refine Rn.need (Out.gl3 ha (by assumption) (by assumption)) ?_ | refine Rn.need (Out.g4 ha (by assumption) (by assumption)) ?_ | refine Rn.need (show GndR _ by (with_reducible first | assumption | exact qi0 (by assumption) _ _ | exact qi0 (qi0 (by assumption) _ _) _ _)) ?_ | refine Rn.cond (fun _=>?_) (fun _=>?_) | refine Rn.jo ?_)
    all_goals (first | exact jG0 ha (by assumption) (by assumption) | exact jF0 ha (by assumption) (by assumption) | exact Rn.abs (by assumption) (Out.us ha).1 | exact Rn.abs (Out.us ha).1 (by assumption) | exact Rn.abs (Out.us ha).2 (by assumption) | (refine Rn.ret (QS.mk { a with w:=false } ?_ (Out.now ha ?_));rotate_left;(first | (intro _ _ e hl;cases e;done) | (intro _ _ e hl;cases e;exact absurd rfl hl) | (intro _ _ _ _;assumption));show _=rSp _ (Sp.s a) (Sp.t a) (Sp.u a) false _;(first | (rw [‹Sp.s a=true›,‹Sp.t a=true›,‹Sp.u a=true›];rfl) | (rw [‹Sp.s a=true›,‹Sp.t a=true›,‹Sp.u a=false›];rfl) | (rw [‹Sp.s a=true›,‹Sp.t a=false›,‹Sp.u a=true›];rfl) | (rw [‹Sp.s a=true›,‹Sp.t a=false›,‹Sp.u a=false›];rfl) | (rw [‹Sp.s a=false›,‹Sp.t a=true›,‹Sp.u a=true›];rfl) | (rw [‹Sp.s a=false›,‹Sp.t a=true›,‹Sp.u a=false›];rfl) | (rw [‹Sp.s a=false›,‹Sp.t a=false›,‹Sp.u a=true›];rfl) | (rw [‹Sp.s a=false›,‹Sp.t a=false›,‹Sp.u a=false›];rfl))) | (refine Rn.ret (QS.mk { a with w:=true,v4:=_,p4:=_,l4:=_ } (by show _=rSp _ (Sp.s a) (Sp.t a) (Sp.u a) true _;first | (rw [‹Sp.s a=true›,‹Sp.t a=true›,‹Sp.u a=true›];rfl) | (rw [‹Sp.s a=true›,‹Sp.t a=true›,‹Sp.u a=false›];rfl) | (rw [‹Sp.s a=true›,‹Sp.t a=false›,‹Sp.u a=true›];rfl) | (rw [‹Sp.s a=true›,‹Sp.t a=false›,‹Sp.u a=false›];rfl)) (Out.set ha rfl _ _ (by first | exact hcc | exact Out.g4 ha (by assumption) (by assumption) | exact qi0 (Out.g4 ha (by assumption) (by assumption)) _ _)))))
  ·unfold cnt;rw [show gB 1 ms (n*1) 0=false from hb];simp
theorem rA {es ms:List V} (E:En es ms) {d n v1 n1 v2 n2 k v3 n3:Nat} (h:OkQ es (d+1) n ([],none)) (IH:Nx es ms d (n+1)) :
 Rn (fun m=>evN PP EP CP (zc0 (XT m)) (rn PP EP CP m) none (lpT es n (hS es ms v1 n1 v2 n2 k v3 n3 ([],none))) some) (QS ((base 28 29).on [(0,.func (.yield 6) [] []),(2,.ptr 4 0 0),(6,.osl 4 es),(7,.int .i64 es.length),(8,.int .i64 n)]) (Out es ms ([],none) (qa0 es ms (d+1) n ([],none)))):=by
 refine .of (fun m=>zF1 (XT m) _ none some es ms n) ?_
 have hN:gE 4 es (Int.toNat (n:Int)*4) 3=nt es n:=rfl
 have hlt:n<es.length:=by have:=h.at';omega
 have hl:=E.len
 simp only [hN]
 refine .decT (by omega) (.nX ⟨by omega,by omega⟩ (.need (E.ldc n hlt) ?_))
 have hgo:GndR []:=GndR.nil
 refine .joinC (c:=cnt ms n=true) (fun hc=>?_) (fun j hj=>?_)
 ·have hf:qa0 es ms (d+1) n ([],none)=qa0 es ms d (n+1) ([],some ([],nt es n)):=by
   show qa0 es ms d (n+1) (qe0 _ (cnt ms n) _)=_
   rw [hc];rfl
  have hq:OkQ es d (n+1) ([],some ([],nt es n)):=h.next E true
  rw [hf]
  have hsz:(nt es n).length≤68719476736:=by have:=hq.sum;simp only [qG0] at this;omega
  have hgN:=E.gnt n hlt
  (repeat (first | ((with_reducible refine Rn.nI ?_ ?_);(first | assumption | exact rfl | ((repeat' apply And.intro) <;> first | trivial | omega | rfl | (intro e;cases e;done) | simp))) | ((with_reducible refine Rn.need ?_ ?_);(first | assumption | exact rfl | ((repeat' apply And.intro) <;> first | trivial | omega | rfl | (intro e;cases e;done) | simp)))))
  refine .cond (fun hn=>?_) (fun hn=>?_)
  ·have hn:=qI0 hn
   rw [hn] at hq ⊢
   (repeat (first | ((with_reducible refine Rn.nI ?_ ?_);(first | assumption | exact rfl | ((repeat' apply And.intro) <;> first | trivial | omega | rfl | (intro e;cases e;done) | simp))) | ((with_reducible refine Rn.need ?_ ?_);(first | assumption | exact rfl | ((repeat' apply And.intro) <;> first | trivial | omega | rfl | (intro e;cases e;done) | simp)))))
   exact .bndT (IH 0 0 0 1 0 0 0 _ hq rfl rfl rfl rfl) (fun a ha=>zF0 ha (fun _ _ e _=>nomatch e))
  ·obtain ⟨c,l,hcl⟩:∃ c l,nt es n=c::l:=by
    cases hx:nt es n with
    | nil=>rw [hx] at hn;cases hn
    | cons c l=>exact ⟨c,l,rfl⟩
   rw [hcl] at hq hsz hgN ⊢
   (repeat (first | ((with_reducible refine Rn.nI ?_ ?_);(first | assumption | exact rfl | ((repeat' apply And.intro) <;> first | trivial | omega | rfl | (intro e;cases e;done) | simp))) | ((with_reducible refine Rn.need ?_ ?_);(first | assumption | exact rfl | ((repeat' apply And.intro) <;> first | trivial | omega | rfl | (intro e;cases e;done) | simp)))))
   exact .bndT (IH 0 0 0 1 0 0 (c::l).length _ hq rfl rfl rfl rfl) (fun a ha=>zF0 ha (fun _ _ e _=>nomatch e))
 ·refine .dec (fun hc=>hj ?_) (fun hc=>.nX ⟨by omega,by omega⟩ (.need (E.ldx n (by omega)) (.cond (fun hb=>?_) (fun hb=>hj ?_))))
  ·unfold cnt;rw [decide_eq_true (by omega)];rfl
  ·have hc:cnt ms n=false:=by
    unfold cnt
    rw [decide_eq_false (by omega),show gB 1 ms (n*1) 0=true from hb];rfl
   have hf:qa0 es ms (d+1) n ([],none)=qa0 es ms d (n+1) (nt es n,none):=by
    show qa0 es ms d (n+1) (qe0 _ (cnt ms n) _)=_
    rw [hc];rfl
   have hq:OkQ es d (n+1) (nt es n,none):=h.next E false
   rw [hf]
   have hsz:(nt es n).length≤68719476736:=by have:=hq.sum;simp only [qG0] at this;omega
   have hgN:=E.gnt n hlt
   (repeat (first | ((with_reducible refine Rn.nI ?_ ?_);(first | assumption | exact rfl | ((repeat' apply And.intro) <;> first | trivial | omega | rfl | (intro e;cases e;done) | simp))) | ((with_reducible refine Rn.need ?_ ?_);(first | assumption | exact rfl | ((repeat' apply And.intro) <;> first | trivial | omega | rfl | (intro e;cases e;done) | simp)))))
   refine .cond (fun hn=>?_) (fun hn=>?_)
   ·have hn:=qI0 hn
    rw [hn] at hq ⊢
    (repeat (first | ((with_reducible refine Rn.nI ?_ ?_);(first | assumption | exact rfl | ((repeat' apply And.intro) <;> first | trivial | omega | rfl | (intro e;cases e;done) | simp))) | ((with_reducible refine Rn.need ?_ ?_);(first | assumption | exact rfl | ((repeat' apply And.intro) <;> first | trivial | omega | rfl | (intro e;cases e;done) | simp)))))
    exact .bndT (IH 0 0 0 0 0 0 0 _ hq rfl rfl rfl rfl) (fun a ha=>zF0 ha (fun _ _ e _=>nomatch e))
   ·obtain ⟨c,l,hcl⟩:∃ c l,nt es n=c::l:=by
     cases hx:nt es n with
     | nil=>rw [hx] at hn;cases hn
     | cons c l=>exact ⟨c,l,rfl⟩
    rw [hcl] at hq hsz hgN ⊢
    (repeat (first | ((with_reducible refine Rn.nI ?_ ?_);(first | assumption | exact rfl | ((repeat' apply And.intro) <;> first | trivial | omega | rfl | (intro e;cases e;done) | simp))) | ((with_reducible refine Rn.need ?_ ?_);(first | assumption | exact rfl | ((repeat' apply And.intro) <;> first | trivial | omega | rfl | (intro e;cases e;done) | simp)))))
    exact .bndT (IH 0 (c::l).length 0 0 0 0 0 _ hq rfl rfl rfl rfl) (fun a ha=>zF0 ha (fun _ _ e _=>nomatch e))
  ·unfold cnt;rw [show gB 1 ms (n*1) 0=false from hb];simp
theorem rB {es ms:List V} {x:V} {y:List V} (E:En es ms) {d n v1 n1 v2 n2 k v3 n3:Nat} (h:OkQ es (d+1) n (x::y,none)) (IH:Nx es ms d (n+1)) (h1:n1=(x::y).length) :
 Rn (fun m=>evN PP EP CP (zc0 (XT m)) (rn PP EP CP m) none (lpT es n (hS es ms v1 n1 v2 n2 k v3 n3 (x::y,none))) some) (QS ((base 28 29).on [(0,.func (.yield 6) [] []),(2,.ptr 4 0 0),(6,.osl 4 es),(7,.int .i64 es.length),(8,.int .i64 n)]) (Out es ms (x::y,none) (qa0 es ms (d+1) n (x::y,none)))):=by
 subst h1
 refine .of (fun m=>zG1 (XT m) _ none some es ms n v1 (x::y).length (x::y)) ?_
 have hN:gE 4 es (Int.toNat (n:Int)*4) 3=nt es n:=rfl
 have hlt:n<es.length:=by have:=h.at';omega
 have hl:=E.len
 simp only [hN]
 refine .decT (by omega) (.nX ⟨by omega,by omega⟩ (.need (E.ldc n hlt) ?_))
 have hgo:GndR []:=GndR.nil
 have hgx:GndR (x::y):=h.g1
 refine .joinC (c:=cnt ms n=true) (fun hc=>?_) (fun j hj=>?_)
 ·have hf:qa0 es ms (d+1) n (x::y,none)=qa0 es ms d (n+1) (x::y,some ([],nt es n)):=by
   show qa0 es ms d (n+1) (qe0 _ (cnt ms n) _)=_
   rw [hc];rfl
  have hq:OkQ es d (n+1) (x::y,some ([],nt es n)):=h.next E true
  rw [hf]
  have hsz:(nt es n).length≤68719476736:=by have:=hq.sum;simp only [qG0] at this;omega
  have hgN:=E.gnt n hlt
  (repeat (first | ((with_reducible refine Rn.nI ?_ ?_);(first | assumption | exact rfl | ((repeat' apply And.intro) <;> first | trivial | omega | rfl | (intro e;cases e;done) | simp))) | ((with_reducible refine Rn.need ?_ ?_);(first | assumption | exact rfl | ((repeat' apply And.intro) <;> first | trivial | omega | rfl | (intro e;cases e;done) | simp)))))
  refine .cond (fun hn=>?_) (fun hn=>?_)
  ·have hn:=qI0 hn
   rw [hn] at hq ⊢
   (repeat (first | ((with_reducible refine Rn.nI ?_ ?_);(first | assumption | exact rfl | ((repeat' apply And.intro) <;> first | trivial | omega | rfl | (intro e;cases e;done) | simp))) | ((with_reducible refine Rn.need ?_ ?_);(first | assumption | exact rfl | ((repeat' apply And.intro) <;> first | trivial | omega | rfl | (intro e;cases e;done) | simp)))))
   exact .bndT (IH v1 (x::y).length 0 1 0 0 0 _ hq rfl rfl rfl rfl) (fun a ha=>zF0 ha (fun _ _ e _=>nomatch e))
  ·obtain ⟨c,l,hcl⟩:∃ c l,nt es n=c::l:=by
    cases hx:nt es n with
    | nil=>rw [hx] at hn;cases hn
    | cons c l=>exact ⟨c,l,rfl⟩
   rw [hcl] at hq hsz hgN ⊢
   (repeat (first | ((with_reducible refine Rn.nI ?_ ?_);(first | assumption | exact rfl | ((repeat' apply And.intro) <;> first | trivial | omega | rfl | (intro e;cases e;done) | simp))) | ((with_reducible refine Rn.need ?_ ?_);(first | assumption | exact rfl | ((repeat' apply And.intro) <;> first | trivial | omega | rfl | (intro e;cases e;done) | simp)))))
   exact .bndT (IH v1 (x::y).length 0 1 0 0 (c::l).length _ hq rfl rfl rfl rfl) (fun a ha=>zF0 ha (fun _ _ e _=>nomatch e))
 ·refine .dec (fun hc=>hj ?_) (fun hc=>.nX ⟨by omega,by omega⟩ (.need (E.ldx n (by omega)) (.cond (fun hb=>?_) (fun hb=>hj ?_))))
  ·unfold cnt;rw [decide_eq_true (by omega)];rfl
  ·have hc:cnt ms n=false:=by
    unfold cnt
    rw [decide_eq_false (by omega),show gB 1 ms (n*1) 0=true from hb];rfl
   have hf:qa0 es ms (d+1) n (x::y,none)=qa0 es ms d (n+1) (x::y++nt es n,none):=by
    show qa0 es ms d (n+1) (qe0 _ (cnt ms n) _)=_
    rw [hc];rfl
   have hq:OkQ es d (n+1) (x::y++nt es n,none):=h.next E false
   rw [hf]
   have hsz:(nt es n).length≤68719476736:=by have:=hq.sum;simp only [qG0,List.length_append] at this;omega
   have hgN:=E.gnt n hlt
   (repeat (first | ((with_reducible refine Rn.nI ?_ ?_);(first | assumption | exact rfl | ((repeat' apply And.intro) <;> first | trivial | omega | rfl | (intro e;cases e;done) | simp))) | ((with_reducible refine Rn.need ?_ ?_);(first | assumption | exact rfl | ((repeat' apply And.intro) <;> first | trivial | omega | rfl | (intro e;cases e;done) | simp)))))
   refine .cond (fun hn=>?_) (fun hn=>?_)
   ·have hn:=qI0 hn
    rw [hn,List.append_nil] at hq
    rw [hn,List.append_nil]
    (repeat (first | ((with_reducible refine Rn.nI ?_ ?_);(first | assumption | exact rfl | ((repeat' apply And.intro) <;> first | trivial | omega | rfl | (intro e;cases e;done) | simp))) | ((with_reducible refine Rn.need ?_ ?_);(first | assumption | exact rfl | ((repeat' apply And.intro) <;> first | trivial | omega | rfl | (intro e;cases e;done) | simp)))))
    exact .bndT (IH v1 (x::y).length 0 0 0 0 0 _ hq rfl rfl rfl rfl) (fun a ha=>zF0 ha (fun _ _ e _=>nomatch e))
   ·obtain ⟨c,l,hcl⟩:∃ c l,nt es n=c::l:=by
     cases hx:nt es n with
     | nil=>rw [hx] at hn;cases hn
     | cons c l=>exact ⟨c,l,rfl⟩
    rw [hcl] at hq hsz hgN ⊢
    have hga:GndR (x::y++c::l):=hgx.app hgN
    have hsa:(x::y).length+(c::l).length≤68719476736:=by have:=hq.sum;simp only [qG0,List.length_append] at this;omega
    (repeat (first | ((with_reducible refine Rn.nI ?_ ?_);(first | assumption | exact rfl | ((repeat' apply And.intro) <;> first | trivial | omega | rfl | (intro e;cases e;done) | simp))) | ((with_reducible refine Rn.need ?_ ?_);(first | assumption | exact rfl | ((repeat' apply And.intro) <;> first | trivial | omega | rfl | (intro e;cases e;done) | simp)))))
    exact .bndT (IH (v1+1) ((x::y).length+(c::l).length) 0 0 0 0 0 _ hq (by simp;omega) rfl rfl rfl) (fun a ha=>zF0 ha (fun _ _ e _=>nomatch e))
  ·unfold cnt;rw [show gB 1 ms (n*1) 0=false from hb];simp
noncomputable abbrev hp0 (es ms:List V):Heap:=hp [.row 0 28 1 0 (some 1) [.nils],.row 0 32 1 0 (some 1) [.nils],.row 0 51 1 0 (some 1) [.ptr 0 0 0],.row 0 29 1 0 (some 1) [.osl 4 es],.row 0 23 1 0 (some 1) [.osl 1 ms],.defs,lpS0 es ms]
theorem r0 {es ms:List V} (E:En es ms) {d n:Nat} (h:OkQ es (d+1) n ([],none)) (IH:Nx es ms d (n+1)) :
 Rn (fun m=>evN PP EP CP (zc0 (XT m)) (rn PP EP CP m) none (lpT es n (hp0 es ms)) some) (QS ((base 28 29).on [(0,.func (.yield 6) [] []),(2,.ptr 4 0 0),(6,.osl 4 es),(7,.int .i64 es.length),(8,.int .i64 n)]) (Out es ms ([],none) (qa0 es ms (d+1) n ([],none)))):=by
 refine .of (fun m=>zE1 (XT m) _ none some es ms n) ?_
 have hN:gE 4 es (Int.toNat (n:Int)*4) 3=nt es n:=rfl
 have hlt:n<es.length:=by have:=h.at';omega
 have hl:=E.len
 simp only [hN]
 refine .decT (by omega) (.nX ⟨by omega,by omega⟩ (.need (E.ldc n hlt) ?_))
 have hgo:GndR []:=GndR.nil
 refine .joinC (c:=cnt ms n=true) (fun hc=>?_) (fun j hj=>?_)
 ·have hf:qa0 es ms (d+1) n ([],none)=qa0 es ms d (n+1) ([],some ([],nt es n)):=by
   show qa0 es ms d (n+1) (qe0 _ (cnt ms n) _)=_
   rw [hc];rfl
  have hq:OkQ es d (n+1) ([],some ([],nt es n)):=h.next E true
  rw [hf]
  have hsz:(nt es n).length≤68719476736:=by have:=hq.sum;simp only [qG0] at this;omega
  have hgN:=E.gnt n hlt
  (repeat (first | ((with_reducible refine Rn.nI ?_ ?_);(first | assumption | exact rfl | ((repeat' apply And.intro) <;> first | trivial | omega | rfl | (intro e;cases e;done) | simp))) | ((with_reducible refine Rn.need ?_ ?_);(first | assumption | exact rfl | ((repeat' apply And.intro) <;> first | trivial | omega | rfl | (intro e;cases e;done) | simp)))))
  refine .cond (fun hn=>?_) (fun hn=>?_)
  ·have hn:=qI0 hn
   rw [hn] at hq ⊢
   (repeat (first | ((with_reducible refine Rn.nI ?_ ?_);(first | assumption | exact rfl | ((repeat' apply And.intro) <;> first | trivial | omega | rfl | (intro e;cases e;done) | simp))) | ((with_reducible refine Rn.need ?_ ?_);(first | assumption | exact rfl | ((repeat' apply And.intro) <;> first | trivial | omega | rfl | (intro e;cases e;done) | simp)))))
   exact .bndT (IH 0 0 0 1 0 0 0 _ hq rfl rfl rfl rfl) (fun a ha=>zF0 ha (fun _ _ e _=>nomatch e))
  ·obtain ⟨c,l,hcl⟩:∃ c l,nt es n=c::l:=by
    cases hx:nt es n with
    | nil=>rw [hx] at hn;cases hn
    | cons c l=>exact ⟨c,l,rfl⟩
   rw [hcl] at hq hsz hgN ⊢
   (repeat (first | ((with_reducible refine Rn.nI ?_ ?_);(first | assumption | exact rfl | ((repeat' apply And.intro) <;> first | trivial | omega | rfl | (intro e;cases e;done) | simp))) | ((with_reducible refine Rn.need ?_ ?_);(first | assumption | exact rfl | ((repeat' apply And.intro) <;> first | trivial | omega | rfl | (intro e;cases e;done) | simp)))))
   exact .bndT (IH 0 0 0 1 0 0 (c::l).length _ hq rfl rfl rfl rfl) (fun a ha=>zF0 ha (fun _ _ e _=>nomatch e))
 ·refine .dec (fun hc=>hj ?_) (fun hc=>.nX ⟨by omega,by omega⟩ (.need (E.ldx n (by omega)) (.cond (fun hb=>?_) (fun hb=>hj ?_))))
  ·unfold cnt;rw [decide_eq_true (by omega)];rfl
  ·have hc:cnt ms n=false:=by
    unfold cnt
    rw [decide_eq_false (by omega),show gB 1 ms (n*1) 0=true from hb];rfl
   have hf:qa0 es ms (d+1) n ([],none)=qa0 es ms d (n+1) (nt es n,none):=by
    show qa0 es ms d (n+1) (qe0 _ (cnt ms n) _)=_
    rw [hc];rfl
   have hq:OkQ es d (n+1) (nt es n,none):=h.next E false
   rw [hf]
   have hsz:(nt es n).length≤68719476736:=by have:=hq.sum;simp only [qG0] at this;omega
   have hgN:=E.gnt n hlt
   (repeat (first | ((with_reducible refine Rn.nI ?_ ?_);(first | assumption | exact rfl | ((repeat' apply And.intro) <;> first | trivial | omega | rfl | (intro e;cases e;done) | simp))) | ((with_reducible refine Rn.need ?_ ?_);(first | assumption | exact rfl | ((repeat' apply And.intro) <;> first | trivial | omega | rfl | (intro e;cases e;done) | simp)))))
   refine .cond (fun hn=>?_) (fun hn=>?_)
   ·have hn:=qI0 hn
    rw [hn] at hq ⊢
    (repeat (first | ((with_reducible refine Rn.nI ?_ ?_);(first | assumption | exact rfl | ((repeat' apply And.intro) <;> first | trivial | omega | rfl | (intro e;cases e;done) | simp))) | ((with_reducible refine Rn.need ?_ ?_);(first | assumption | exact rfl | ((repeat' apply And.intro) <;> first | trivial | omega | rfl | (intro e;cases e;done) | simp)))))
    exact .bndT (IH 0 0 0 0 0 0 0 _ hq rfl rfl rfl rfl) (fun a ha=>zF0 ha (fun _ _ e _=>nomatch e))
   ·obtain ⟨c,l,hcl⟩:∃ c l,nt es n=c::l:=by
     cases hx:nt es n with
     | nil=>rw [hx] at hn;cases hn
     | cons c l=>exact ⟨c,l,rfl⟩
    rw [hcl] at hq hsz hgN ⊢
    (repeat (first | ((with_reducible refine Rn.nI ?_ ?_);(first | assumption | exact rfl | ((repeat' apply And.intro) <;> first | trivial | omega | rfl | (intro e;cases e;done) | simp))) | ((with_reducible refine Rn.need ?_ ?_);(first | assumption | exact rfl | ((repeat' apply And.intro) <;> first | trivial | omega | rfl | (intro e;cases e;done) | simp)))))
    exact .bndT (IH 0 (c::l).length 0 0 0 0 0 _ hq rfl rfl rfl rfl) (fun a ha=>zF0 ha (fun _ _ e _=>nomatch e))
  ·unfold cnt;rw [show gB 1 ms (n*1) 0=false from hb];simp
theorem rZ {es ms:List V} {n v1 n1 v2 n2 k v3 n3:Nat} {q:Sq} (h:OkQ es 0 n q) (h1:n1=q.1.length) (h2:n2=qx0 q) (hk:k=qx0 q-1) (h3:n3=qG0 q) :
 Rn (fun m=>evN PP EP CP (zc0 (XT m)) (rn PP EP CP m) none (lpT es n (hS es ms v1 n1 v2 n2 k v3 n3 q)) some) (QS ((base 28 29).on [(0,.func (.yield 6) [] []),(2,.ptr 4 0 0),(6,.osl 4 es),(7,.int .i64 es.length),(8,.int .i64 n)]) (Out es ms q q)):=by
 have hn:¬ ((n:Int)<(es.length:Int)):=by have:=h.at';omega
 obtain ⟨ld,x⟩:=q
 have g1:GndR ld:=h.g1
 cases x with
 | none =>
  cases ld with
  | nil =>
   refine .of (fun m=>zF1 (XT m) _ none some es ms n) (.decF hn (.ret (QS.mk ⟨false,0,0,[],false,0,0,[],0,false,0,0,[],false,0,0,[],es,ms⟩ rfl ?_)))
   exact ⟨rfl,rfl,rfl,(fun e=>by cases e),rfl,(fun _ _ e=>by cases e),(fun e=>by cases e),g1,(fun _ _ e=>by cases e),(fun e=>by cases e),(fun _ _ e=>by cases e)⟩
  | cons a b =>
   refine .of (fun m=>zG1 (XT m) _ none some es ms n v1 n1 (a::b)) (.decF hn (.need g1 (.need g1 (.ret (QS.mk ⟨true,v1,n1,a::b,false,0,0,[],0,false,0,0,[],false,0,0,[],es,ms⟩ rfl ?_)))))
   exact ⟨rfl,rfl,rfl,(fun _=>⟨rfl,h1⟩),rfl,(fun _ _ e=>by cases e),(fun e=>by cases e),g1,(fun _ _ e=>by cases e),(fun e=>by cases e),(fun _ _ e=>by cases e)⟩
 | some p =>
  obtain ⟨o,l⟩:=p
  obtain ⟨g2,g3⟩:=h.g2 o l rfl
  cases l with
  | nil =>
   cases ld with
   | nil =>
    refine .of (fun m=>zH1 (XT m) _ none some es ms n v2 n2 k o) (.decF hn (.need g2 (.need g2 (.ret (QS.mk ⟨false,0,0,[],true,v2,n2,o,k,false,0,0,[],false,0,0,[],es,ms⟩ rfl ?_)))))
    exact ⟨rfl,rfl,rfl,(fun e=>by cases e),rfl,(fun _ _ e=>by cases e;exact ⟨rfl,h2,hk,rfl,fun e=>by cases e⟩),(fun _ e=>by cases e),g1,(fun _ _ e=>by cases e;exact ⟨g2,g3⟩),(fun _ e=>by cases e),(fun _ _ e hl=>by cases e;exact absurd rfl hl)⟩
   | cons a b =>
    refine .of (fun m=>zJ1 (XT m) _ none some es ms n v1 n1 (a::b) v2 n2 k o) (.decF hn (.need g1 (.need g2 (.need g1 (.need g2 (.ret (QS.mk ⟨true,v1,n1,a::b,true,v2,n2,o,k,false,0,0,[],false,0,0,[],es,ms⟩ rfl ?_)))))))
    exact ⟨rfl,rfl,rfl,(fun _=>⟨rfl,h1⟩),rfl,(fun _ _ e=>by cases e;exact ⟨rfl,h2,hk,rfl,fun e=>by cases e⟩),(fun _ e=>by cases e),g1,(fun _ _ e=>by cases e;exact ⟨g2,g3⟩),(fun _ e=>by cases e),(fun _ _ e hl=>by cases e;exact absurd rfl hl)⟩
  | cons c l =>
   cases ld with
   | nil =>
    refine .of (fun m=>zI1 (XT m) _ none some es ms n v2 n2 k o v3 n3 (c::l)) (.decF hn (.need g2 (.need g3 (.need g2 (.need g3 (.ret (QS.mk ⟨false,0,0,[],true,v2,n2,o,k,true,v3,n3,c::l,false,0,0,[],es,ms⟩ rfl ?_)))))))
    exact ⟨rfl,rfl,rfl,(fun e=>by cases e),rfl,(fun _ _ e=>by cases e;exact ⟨rfl,h2,hk,rfl,fun _=>⟨rfl,h3⟩⟩),(fun _ e=>by cases e),g1,(fun _ _ e=>by cases e;exact ⟨g2,g3⟩),(fun _ e=>by cases e),(fun _ _ _ _ e=>by cases e)⟩
   | cons a b =>
    refine .of (fun m=>zK1 (XT m) _ none some es ms n v1 n1 (a::b) v2 n2 k o v3 n3 (c::l)) (.decF hn (.need g1 (.need g2 (.need g3 (.need g1 (.need g2 (.need g3 (.ret (QS.mk ⟨true,v1,n1,a::b,true,v2,n2,o,k,true,v3,n3,c::l,false,0,0,[],es,ms⟩ rfl ?_)))))))))
    exact ⟨rfl,rfl,rfl,(fun _=>⟨rfl,h1⟩),rfl,(fun _ _ e=>by cases e;exact ⟨rfl,h2,hk,rfl,fun _=>⟨rfl,h3⟩⟩),(fun _ e=>by cases e),g1,(fun _ _ e=>by cases e;exact ⟨g2,g3⟩),(fun _ e=>by cases e),(fun _ _ _ _ e=>by cases e)⟩
theorem rZ0 {ms:List V}:Rn (fun m=>evN PP EP CP (zc0 (XT m)) (rn PP EP CP m) none (lpT [] 0 (hp0 [] ms)) some) (QS ((base 28 29).on [(0,.func (.yield 6) [] []),(2,.ptr 4 0 0),(6,.osl 4 []),(7,.int .i64 ([]:List V).length),(8,.int .i64 0)]) (Out [] ms ([],none) ([],none))):=by
 refine .of (fun m=>zE1 (XT m) _ none some [] ms 0) (.decF (by decide) (.ret (QS.mk ⟨false,0,0,[],false,0,0,[],0,false,0,0,[],false,0,0,[],[],ms⟩ rfl ?_)))
 exact ⟨rfl,rfl,rfl,(fun e=>by cases e),rfl,(fun _ _ e=>by cases e),(fun e=>by cases e),GndR.nil,(fun _ _ e=>by cases e),(fun e=>by cases e),(fun _ _ e=>by cases e)⟩
/-- A result of Spread's loop is read: what can be seen of it. -/
noncomputable def cl0 (h:Heap) (i:Nat):V:=match h.get i with
 | .row _ _ _ _ _ es=>es.headD undef
 | _=>undef
noncomputable def rowE (h:Heap) (i:Nat):List V:=match h.get i with
 | .row _ _ _ _ _ es=>es
 | .rowS _ _ _ _ l _=>l
 | _=>[]
noncomputable def rowX (h:Heap) (i:Nat):V:=match h.get i with
 | .rowS _ _ _ _ _ x=>x
 | _=>undef
def slN:V→Nat
 | .sl _ _ _ n _=>n
 | _=>0
def slR:V→Nat
 | .sl r _ _ _ _=>r
 | _=>0
def ptO:V→Nat
 | .ptr _ _ o=>o
 | _=>0
noncomputable def rdS:Res→Sp
 | .code _ _ h=>⟨zS0 (cl0 h 0),0,slN (cl0 h 0),rowE h (slR (cl0 h 0)),zS0 (cl0 h 1),0,slN (cl0 h 1),rowE h (slR (cl0 h 1)),ptO (cl0 h 2),zS0 (rowX h (slR (cl0 h 1))),0,slN (rowX h (slR (cl0 h 1))),rowE h (slR (rowX h (slR (cl0 h 1)))),zS0 (cl0 h 1)&&Nat.blt (slR (cl0 h 1)+1+(zS0 (rowX h (slR (cl0 h 1)))).toNat) h.n,0,0,bif zS0 (cl0 h 1)&&Nat.blt (slR (cl0 h 1)+1+(zS0 (rowX h (slR (cl0 h 1)))).toNat) h.n then rowE h (slR (cl0 h 1)+1) else [],qK0 (cl0 h 3),qK0 (cl0 h 4)⟩
 | _=>⟨false,0,0,[],false,0,0,[],0,false,0,0,[],false,0,0,[],[],[]⟩
theorem rdS_R (fr:Fr) (a:Sp):∃ b,rdS (rSp fr a.s a.t a.u a.w a)=b∧b.u=a.u∧(a.u=true→b.n1=a.n1∧b.l1=a.l1)∧b.s=a.s∧(a.s=true→b.n2=a.n2∧b.l2=a.l2∧b.o=a.o∧b.t=a.t∧b.w=a.w∧(a.t=true→b.n3=a.n3∧b.l3=a.l3)∧(a.w=true→b.l4=a.l4))∧b.es=a.es∧b.ms=a.ms:=by
 obtain ⟨u,v1,n1,l1,s,v2,n2,l2,o,t,v3,n3,l3,w,v4,p4,l4,es,ms⟩:=a
 refine ⟨_,rfl,?_⟩
 cases s <;> cases t <;> cases u <;> cases w <;> (refine ⟨rfl,?_,rfl,?_,rfl,rfl⟩ <;> first | (intro e;cases e;done) | (intro _;first | exact ⟨rfl,rfl⟩ | refine ⟨rfl,rfl,rfl,rfl,?_,?_,?_⟩ <;> first | (intro e;cases e;done) | kernel_rfl | (intro _;first | exact ⟨rfl,rfl⟩ | kernel_rfl)))
theorem Out.look {es ms:List V} {q0 q:Sq} {a b:Sp} (h:Out es ms q0 q a) (hu:b.u=a.u) (h1:b.u=true→b.n1=a.n1∧b.l1=a.l1) (hs:b.s=a.s) (h2:b.s=true→b.n2=a.n2∧b.l2=a.l2∧b.o=a.o∧b.t=a.t∧b.w=a.w∧(b.t=true→b.n3=a.n3∧b.l3=a.l3)∧(b.w=true→b.l4=a.l4)) (he:b.es=a.es) (hm:b.ms=a.ms) (hq:∀ o l,q0.2=some (o,l)→q.2.isSome=true):Out es ms q0 q b where
 es:=he.trans h.es
 ms:=hm.trans h.ms
 u:=hu.trans h.u
 l1:=fun e=>by
  obtain ⟨p1,p2⟩:=h1 e
  obtain ⟨r1,r2⟩:=h.l1 (hu ▸ e)
  exact ⟨p2.trans r1,p1.trans r2⟩
 s:=hs.trans h.s
 o:=fun o l e=>by
  have hs':b.s=true:=by rw [hs,h.s,e];rfl
  obtain ⟨p1,p2,p3,p4,p5,p6,p7⟩:=h2 hs'
  obtain ⟨r1,r2,r3,r4,r5⟩:=h.o o l e
  exact ⟨p2.trans r1,p1.trans r2,p3.trans r3,p4.trans r4,fun ht=>⟨(p6 ht).2.trans (r5 (p4 ▸ ht)).1,(p6 ht).1.trans (r5 (p4 ▸ ht)).2⟩⟩
 w:=fun e1 e2=>by
  obtain ⟨p1,p2,p3,p4,p5,p6,p7⟩:=h2 e1
  exact h.w (hs ▸ e1) (p5 ▸ e2)
 g1:=h.g1
 g2:=h.g2
 g4:=fun e1 e2=>by
  obtain ⟨p1,p2,p3,p4,p5,p6,p7⟩:=h2 e1
  rw [p7 e2]
  exact h.g4 (hs ▸ e1) (p5 ▸ e2)
 v:=fun o l e hl ht=>by
  have hs':b.s=true:=by rw [hs,h.s];exact hq o l e
  obtain ⟨p1,p2,p3,p4,p5,p6,p7⟩:=h2 hs'
  rw [p5];exact h.v o l e hl (p4 ▸ ht)
theorem OkT.okS {es ms:List V} {n:Int} {h:Heap} {q0 q:Sq} (hq:∀ o l,q0.2=some (o,l)→q.2.isSome=true) (hR:Rn (fun m=>evN PP EP CP (zc0 (XT m)) (rn PP EP CP m) none (lpT es n h) some) (QS ((base 28 29).on [(0,.func (.yield 6) [] []),(2,.ptr 4 0 0),(6,.osl 4 es),(7,.int .i64 es.length),(8,.int .i64 n)]) (Out es ms q0 q))):OkT (fun X=>X.Sp (lpT es n h)) (Out es ms q0 q):=by
 obtain ⟨r,⟨a,rfl,hP⟩,hT⟩:=Tk.byT hR
 obtain ⟨a',h1,h2⟩:=Zy0 (R:=fun a:Sp=>rSp (frO (lpT es n h)) a.s a.t a.u a.w a) (Q:=qN) a
 obtain ⟨b,e1,e2,e3,e4,e5,e6,e7⟩:=rdS_R (frO (lpT es n h)) a
 obtain ⟨b',f1,f2,f3,f4,f5,f6,f7⟩:=rdS_R (frO (lpT es n h)) a'
 have hb:b=b':=by rw [← e1,← f1];exact congrArg rdS h1.symm
 subst hb
 refine ⟨a',?_,hT.mono fun m hm=>by show exR _ _ (rn PP EP CP m (lpT es n h))=_;rw [show rn PP EP CP m (lpT es n h)=_ from hm];exact h2⟩
 have hu:a'.u=a.u:=f2.symm.trans e2
 have hs:a'.s=a.s:=f4.symm.trans e4
 refine hP.look hu (fun e=>?_) hs (fun e=>?_) (f6.symm.trans e6) (f7.symm.trans e7) hq
 ·obtain ⟨p1,p2⟩:=e3 (hu ▸ e)
  obtain ⟨r1,r2⟩:=f3 e
  exact ⟨r1.symm.trans p1,r2.symm.trans p2⟩
 ·obtain ⟨p1,p2,p3,p4,p5,p6,p7⟩:=e5 (hs ▸ e)
  obtain ⟨r1,r2,r3,r4,r5,r6,r7⟩:=f5 e
  have ht:a'.t=a.t:=r4.symm.trans p4
  have hw:a'.w=a.w:=r5.symm.trans p5
  exact ⟨r1.symm.trans p1,r2.symm.trans p2,r3.symm.trans p3,ht,hw,fun e'=>⟨(r6 e').1.symm.trans (p6 (ht ▸ e')).1,(r6 e').2.symm.trans (p6 (ht ▸ e')).2⟩,fun e'=>(r7 e').symm.trans (p7 (hw ▸ e'))⟩
theorem yh1 {es ms:List V} {d n:Nat} {q0:Sq}:∀ o l,q0.2=some (o,l)→(qa0 es ms d n q0).2.isSome=true:=by
 intro o l e
 obtain ⟨ld,x⟩:=q0
 change x=some (o,l) at e
 subst e
 obtain ⟨p',h⟩:=yg1 es ms d n ld (o,l)
 rw [h];rfl
theorem nx_all {es ms:List V} (E:En es ms) (d:Nat):∀ n,Nx es ms d n:=by
 induction d with
 | zero=>exact fun n v1 n1 v2 n2 k v3 n3 q h h1 h2 hk h3=>.okS yh1 (rZ h h1 h2 hk h3)
 | succ d IH =>
  intro n v1 n1 v2 n2 k v3 n3 q h h1 h2 hk h3
  refine .okS yh1 ?_
  obtain ⟨ld,x⟩:=q
  cases x with
  | none =>
   cases ld with
   | nil=>exact rA E h (IH (n+1))
   | cons a b=>exact rB E h (IH (n+1)) h1
  | some p =>
   obtain ⟨o,l⟩:=p
   have h2:n2=o.length+1:=h2
   have hk:k=o.length:=hk
   cases l with
   | nil =>
    cases ld with
    | nil=>exact rC E h (IH (n+1)) h2 hk
    | cons a b=>exact rE E h (IH (n+1)) h1 h2 hk
   | cons c l =>
    cases ld with
    | nil=>exact rD E h (IH (n+1)) h2 hk h3
    | cons a b=>exact rF E h (IH (n+1)) h1 h2 hk h3
/-- tidy.Spread. -/
def je0 (q:Sq):List V×List V:=(q.1,match q.2 with
 | none=>[]
 | some (o,l)=>o++[V.osl 1 l])
noncomputable def spQ (es ms:List V):List V×List V:=je0 (qa0 es ms es.length 0 ([],none))
theorem Out.res {es ms:List V} {q0 q:Sq} {a:Sp} (h:Out es ms q0 q a):(bif a.u then a.l1 else [],bif a.s then a.l2++[V.osl 1 (bif a.t then a.l3 else [])] else [])=je0 q:=by
 obtain ⟨ld,x⟩:=q
 have hu:=h.u
 have h1:(bif a.u then a.l1 else [])=ld:=by
  cases ld with
  | nil=>rw [hu];rfl
  | cons c l=>rw [(h.l1 hu).1,hu];rfl
 rw [h1]
 have hs:=h.s
 cases x with
 | none=>rw [hs];rfl
 | some p =>
  obtain ⟨o,l⟩:=p
  obtain ⟨p1,p2,p3,p4,p5⟩:=h.o o l rfl
  rw [hs,p1]
  cases l with
  | nil=>rw [p4];rfl
  | cons c l=>rw [(p5 p4).1,p4];rfl
theorem Out.k1 {es ms:List V} {q0 q:Sq} {a:Sp} (h:Out es ms q0 q a) (hu:a.u=true):a.n1=a.l1.length:=by rw [(h.l1 hu).1];exact (h.l1 hu).2
theorem Out.k2 {es ms:List V} {q0 q:Sq} {a:Sp} (h:Out es ms q0 q a) (hs:a.s=true) (x:V):a.n2=(a.l2++[x]).length:=by
 obtain ⟨ld,p⟩:=q
 cases p with
 | none=>exact nomatch (h.s.symm.trans hs)
 | some p=>obtain ⟨p1,p2,_⟩:=h.o p.1 p.2 rfl;rw [p1,p2,List.length_append];rfl
theorem Out.k3 {es ms:List V} {q0 q:Sq} {a:Sp} (h:Out es ms q0 q a) (hs:a.s=true) (ht:a.t=true):a.n3=a.l3.length:=by
 obtain ⟨ld,p⟩:=q
 cases p with
 | none=>exact nomatch (h.s.symm.trans hs)
 | some p=>obtain ⟨_,_,_,_,p5⟩:=h.o p.1 p.2 rfl;rw [(p5 ht).1];exact (p5 ht).2
theorem spl_ok {es ms:List V} (E:En es ms) (hs:szQ es es.length 0≤68719476736):OkT (fun X=>X.Sp (lpT es 0 (hp0 es ms))) (Out es ms ([],none) (qa0 es ms es.length 0 ([],none))):=by
 cases es with
 | nil=>exact .okS (fun _ _ e=>by cases e) rZ0
 | cons x y =>
  exact .okS (fun _ _ e=>by cases e) (r0 (n:=0) (d:=y.length) E ⟨by simp,by simpa [qG0] using hs,Nat.le_refl _,GndR.nil,fun _ _ e=>by cases e⟩ (nx_all E y.length 1))
def rdSS:Res→List V×List V
 | .ret (.tup [.osl _ a,.osl _ b]) _=>(a,b)
 | _=>([],[])
theorem zx2 {es ms:List V} (E:En es ms) (hs:szQ es es.length 0≤68719476736):OkT (fun X=>X.SS (.call 8 [.osl 4 es,.osl 1 ms] Heap.empty)) (fun a=>a=spQ es ms):=by
 refine OkT.tk (R:=rSS) (Q:=qN) (L:=rdSS) (fun _=>rfl) (fun _=>rfl) (Tk.byT (.of (fun m=>YS1 (XT m) _ none some es ms) (.bndT (spl_ok E hs) fun a ha=>?_)))
 repeat' (with_reducible first | refine Rn.nG (Out.k3 ha (by assumption) (by assumption)) (Out.gl3 ha (by assumption) (by assumption)) ?_ | refine Rn.nG (Out.k1 ha (by assumption)) (Out.gl1 ha (by assumption)) ?_ | refine Rn.need ⟨rfl,rfl,Out.k2 ha (by assumption) _,GndR.app (Out.gl2 ha (by assumption)) (jk0 _)⟩ ?_ | refine Rn.cond (fun _=>?_) (fun _=>?_) | refine Rn.jo ?_)
 all_goals (refine Rn.ret ⟨(_,_),rfl,?_⟩;refine Eq.trans ?_ (Out.res ha);first | (rw [‹Sp.s a=true›,‹Sp.t a=true›,‹Sp.u a=true›];rfl) | (rw [‹Sp.s a=true›,‹Sp.t a=true›,‹Sp.u a=false›];rfl) | (rw [‹Sp.s a=true›,‹Sp.t a=false›,‹Sp.u a=true›];rfl) | (rw [‹Sp.s a=true›,‹Sp.t a=false›,‹Sp.u a=false›];rfl) | (rw [‹Sp.s a=false›,‹Sp.u a=true›];rfl) | (rw [‹Sp.s a=false›,‹Sp.u a=false›];rfl))

/-- THE LAW's LOOPS. -/
theorem gE_sh (es:List V) (i:Nat):gE 4 es (Nat.add (i*4) 3) 0=nt es i:=by
 unfold nt gE QB0
 rw [show Nat.add (i*4) 3/4=i by show (i*4+3)/4=i;omega,show Nat.add (i*4) 3%4+0=3 by show (i*4+3)%4+0=3;omega,show i*4/4=i by omega,show i*4%4+3=3 by omega]
structure Ei (es ms:List V):Prop extends En es ms where
 ldn:∀ n,n<es.length→ldC PP 28 4 es (Nat.add (n*4) 3)
 ldm:∀ n,n<ms.length→ldC PP 4 1 ms (n*1)
structure Ef (es ms:List V):Prop extends Ei es ms where
 small:szQ es es.length 0+es.length≤1000000000
structure Q1 (es ms xs fin:List V) (a:Ap):Prop where
 es:a.es=es
 ms:a.ms=ms
 xs:a.xs=xs
 u:a.u=!qb0 fin
 l:a.u=true→a.l1=fin∧a.n1=fin.length
noncomputable def t1 (es ms xs:List V) (v n:Nat) (i:Int):List V→Task
 | []=>.code (.loop (lpB PP 4 1)) ((base 4 112).on [(0,.osl 4 es),(1,.osl 1 ms),(8,.osl 1 xs),(9,.nils),(10,.int .i64 i)]) Heap.empty
 | a::b=>.code (.loop (lpB PP 4 1)) ((base 4 112).on [(0,.osl 4 es),(1,.osl 1 ms),(8,.osl 1 xs),(9,.sl 0 v 0 n none),(10,.int .i64 i)]) (hp [rwT v (a::b)])
structure Xf (xs:List V):Prop where
 len:xs.length≤1000000000
 ld:∀ i,i<xs.length→ldC PP 28 1 xs (i*1)
 gn:∀ i,i<xs.length→GndR (gE 1 xs (i*1) 0)
/-- What is wanted. -/
structure Q2 (es ms xs l1 fin:List V) (m:Int) (a:Ap):Prop where
 es:a.es=es
 ms:a.ms=ms
 xs:a.xs=xs
 l:qb0 l1=false→a.l1=l1∧a.n1=l1.length
 s:a.s=!qb0 fin
 k:a.s=true→a.l2=fin∧a.n2=fin.length
 m:a.m=m
noncomputable def t2 (es ms xs:List V) (v1 n1 v n:Nat) (m i:Int):List V→List V→Task
 | [],[]=>.code (.loop (lpB PP 4 2)) ((base 4 112).on [(0,.osl 4 es),(1,.osl 1 ms),(8,.osl 1 xs),(9,.nils),(11,.nils),(12,.int .i64 m),(13,.int .i64 i)]) Heap.empty
 | [],a::b=>.code (.loop (lpB PP 4 2)) ((base 4 112).on [(0,.osl 4 es),(1,.osl 1 ms),(8,.osl 1 xs),(9,.nils),(11,.sl 0 v 0 n none),(12,.int .i64 m),(13,.int .i64 i)]) (hp [rwT v (a::b)])
 | a::b,[]=>.code (.loop (lpB PP 4 2)) ((base 4 112).on [(0,.osl 4 es),(1,.osl 1 ms),(8,.osl 1 xs),(9,.sl 0 v1 0 n1 none),(11,.nils),(12,.int .i64 m),(13,.int .i64 i)]) (hp [rwT v1 (a::b)])
 | a::b,c::d=>.code (.loop (lpB PP 4 2)) ((base 4 112).on [(0,.osl 4 es),(1,.osl 1 ms),(8,.osl 1 xs),(9,.sl 0 v1 0 n1 none),(11,.sl 1 v 0 n none),(12,.int .i64 m),(13,.int .i64 i)]) (hp [rwT v1 (a::b),rwT v (c::d)])
noncomputable def Qw0 (es:List V):Nat→Nat→List V
 | 0,_=>[]
 | d+1,i=>nt es i++Qw0 es d (i+1)
noncomputable def cntN (ms:List V):Nat→Nat→Nat
 | 0,_=>0
 | d+1,i=>(cnt ms i).toNat+cntN ms d (i+1)
theorem yI0 {l:List V} (h:qb0 l=false):∃ c k,l=c::k:=by
 cases l with
 | nil=>cases h
 | cons c k=>exact ⟨c,k,rfl⟩
/-- DATA: tokens, items, texts, numbers as elements of rows. -/
theorem zK0 {sz:Nat} {es:List V} {i j q:Nat} {e:V} (hz:j<sz) (he:es[i]?=some e):QB0 sz es (i*sz+j) q=e.cells.getD (j+q) undef:=by
 have h1:(i*sz+j)/sz=i:=by rw [Nat.add_comm,Nat.add_mul_div_right _ _ (by omega),Nat.div_eq_of_lt hz,Nat.zero_add]
 have h2:(i*sz+j)%sz=j:=by rw [Nat.add_comm,Nat.add_mul_mod_self_right,Nat.mod_eq_of_lt hz]
 unfold QB0
 rw [h1,h2,show es.getD i undef=e by rw [List.getD_eq_getElem?_getD,he];rfl]
theorem jN0 {sz:Nat} {es:List V} {i j k:Nat} {e:V} (hz:2≤sz) (hj:j<sz) (hk:j+k≤e.cells.length) (he:es[i]?=some e):qE0 sz es (i*sz+j) k=some ((e.cells.drop j).take k):=by
 have h1:(i*sz+j)/sz=i:=by rw [Nat.add_comm,Nat.add_mul_div_right _ _ (by omega),Nat.div_eq_of_lt hj,Nat.zero_add]
 have h2:(i*sz+j)%sz=j:=by rw [Nat.add_comm,Nat.add_mul_mod_self_right,Nat.mod_eq_of_lt hj]
 unfold qE0
 rw [show Nat.beq sz 1=false by
  cases hb:Nat.beq sz 1 with
  | false=>rfl
  | true=>have:=Nat.eq_of_beq_eq_true hb;omega]
 simp only [cond_false]
 rw [show Nat.div (i*sz+j) sz=i from h1,show Nat.mod (i*sz+j) sz=j from h2,List.at_eq,he]
 simp only [List.len_eq,List.takeN_eq,List.dropN_eq]
 rw [show Nat.ble (Nat.add j k) e.cells.length=true by rw [Nat.ble_eq];exact hk]
 rfl
theorem Zq0 {es:List V} {i:Nat} {e:V} (he:es[i]?=some e):qE0 1 es (i*1) 1=some e.cells:=by
 rw [Nat.mul_one]
 unfold qE0
 change (match List.at es i with
  | none=>none
  | some e=>some e.cells)=_
 rw [List.at_eq,he]
section one
variable {es:List V} {i:Nat}
theorem Xn0 {w:List UInt8} (h:es[i]?=some (.str w)):ldX PP 9 1 es (i*1)∧ldC PP 9 1 es (i*1)∧gS 1 es (i*1) 0=w:=by
 have hg:gS 1 es (i*1) 0=w:=by
  unfold gS
  rw [show i*1=i*1+0 from rfl,zK0 (by omega) h];rfl
 have he:qO0 PP 9 1 es (i*1)=some (.str (gS 1 es (i*1) 0)):=by kernel_rfl
 have hl:load PP Heap.empty 9 (.gptr 1 es (i*1))=some (.str w):=by
  change zx0 PP 9 (qE0 1 es (i*1) 1)=_
  rw [Zq0 h]
  kernel_rfl
 refine ⟨?_,?_,hg⟩
 ·unfold ldX;rw [he,hg,hl]
 ·unfold ldC ya0;rw [he,hg,hl];first | kernel_rfl | rfl
theorem QS0 {z:Int} (h:es[i]?=some (.int .i64 z)):ldX PP 3 1 es (i*1)∧ldC PP 3 1 es (i*1)∧gI 1 es (i*1) 0=z:=by
 have hg:gI 1 es (i*1) 0=z:=by
  unfold gI
  rw [show i*1=i*1+0 from rfl,zK0 (by omega) h];rfl
 have he:qO0 PP 3 1 es (i*1)=some (.int .i64 (gI 1 es (i*1) 0)):=by kernel_rfl
 have hl:load PP Heap.empty 3 (.gptr 1 es (i*1))=some (.int .i64 z):=by
  change zx0 PP 3 (qE0 1 es (i*1) 1)=_
  rw [Zq0 h]
  kernel_rfl
 refine ⟨?_,?_,hg⟩
 ·unfold ldX;rw [he,hg,hl]
 ·unfold ldC ya0;rw [he,hg,hl];first | kernel_rfl | rfl
theorem ldX_b {z:Int} (h:es[i]?=some (.int .u8 z)):ldX PP 5 1 es (i*1)∧ldC PP 5 1 es (i*1)∧gI 1 es (i*1) 0=z:=by
 have hg:gI 1 es (i*1) 0=z:=by
  unfold gI
  rw [show i*1=i*1+0 from rfl,zK0 (by omega) h];rfl
 have he:qO0 PP 5 1 es (i*1)=some (.int .u8 (gI 1 es (i*1) 0)):=by kernel_rfl
 have hl:load PP Heap.empty 5 (.gptr 1 es (i*1))=some (.int .u8 z):=by
  change zx0 PP 5 (qE0 1 es (i*1) 1)=_
  rw [Zq0 h]
  kernel_rfl
 refine ⟨?_,?_,hg⟩
 ·unfold ldX;rw [he,hg,hl]
 ·unfold ldC ya0;rw [he,hg,hl];first | kernel_rfl | rfl
end one
def qu0 (t:Int×List UInt8):V:=.agg [.int .i64 t.1,.str t.2]
structure It where
 k:Int
 w:List UInt8
 a:Int
 ns:List V
def itV (x:It):V:=.agg [.int .i64 x.k,.str x.w,.int .i64 x.a,.osl 1 x.ns]
section two
variable {es:List V} {i:Nat} {t:Int×List UInt8} (h:es[i]?=some (qu0 t))
 include h
theorem Qt0:gI 2 es (i*2) 0=t.1∧gS 2 es (i*2) 1=t.2∧gS 2 es (i*2+1) 0=t.2:=by
 refine ⟨?_,?_,?_⟩
 ·unfold gI;rw [show i*2=i*2+0 from rfl,zK0 (by omega) h];rfl
 ·unfold gS;rw [show i*2=i*2+0 from rfl,zK0 (by omega) h];rfl
 ·unfold gS;rw [zK0 (by omega) h];rfl
theorem Ke0:ldX PP 39 2 es (i*2)∧ldC PP 39 2 es (i*2):=by
 obtain ⟨g1,g2,_⟩:=Qt0 h
 have he:qO0 PP 39 2 es (i*2)=some (.agg [.int .i64 (gI 2 es (i*2) 0),.str (gS 2 es (i*2) 1)]):=by kernel_rfl
 have hl:load PP Heap.empty 39 (.gptr 2 es (i*2))=some (.agg [.int .i64 t.1,.str t.2]):=by
  change zx0 PP 39 (qE0 2 es (i*2+0) 2)=_
  rw [jN0 (by omega) (by omega) (show 0+2≤2 by omega) h]
  kernel_rfl
 constructor
 ·unfold ldX;rw [he,g1,g2,hl]
 ·unfold ldC ya0;rw [he,g1,g2,hl];first | kernel_rfl | rfl
theorem Jr0:ldC PP 3 2 es (i*2):=by
 obtain ⟨g1,_,_⟩:=Qt0 h
 have he:qO0 PP 3 2 es (i*2)=some (.int .i64 (gI 2 es (i*2) 0)):=by kernel_rfl
 have hl:load PP Heap.empty 3 (.gptr 2 es (i*2))=some (.int .i64 t.1):=by
  change zx0 PP 3 (qE0 2 es (i*2+0) 1)=_
  rw [jN0 (by omega) (by omega) (show 0+1≤2 by omega) h]
  kernel_rfl
 unfold ldC ya0;rw [he,g1,hl];first | kernel_rfl | rfl
theorem Js0:ldC PP 9 2 es (i*2+1):=by
 obtain ⟨_,_,g1⟩:=Qt0 h
 have he:qO0 PP 9 2 es (i*2+1)=some (.str (gS 2 es (i*2+1) 0)):=by kernel_rfl
 have hl:load PP Heap.empty 9 (.gptr 2 es (i*2+1))=some (.str t.2):=by
  change zx0 PP 9 (qE0 2 es (i*2+1) 1)=_
  rw [jN0 (by omega) (by omega) (show 1+1≤2 by omega) h]
  kernel_rfl
 unfold ldC ya0;rw [he,g1,hl];first | kernel_rfl | rfl
end two
section four
variable {es:List V} {i:Nat} {t:It} (h:es[i]?=some (itV t))
 include h
theorem it_g:gI 4 es (i*4) 0=t.k∧gS 4 es (i*4) 1=t.w∧gI 4 es (i*4) 2=t.a∧gE 4 es (i*4) 3=t.ns∧gE 4 es (i*4+2+1) 0=t.ns:=by
 refine ⟨?_,?_,?_,?_,?_⟩
 ·unfold gI;rw [show i*4=i*4+0 from rfl,zK0 (by omega) h];rfl
 ·unfold gS;rw [show i*4=i*4+0 from rfl,zK0 (by omega) h];rfl
 ·unfold gI;rw [show i*4=i*4+0 from rfl,zK0 (by omega) h];rfl
 ·unfold gE;rw [show i*4=i*4+0 from rfl,zK0 (by omega) h];rfl
 ·unfold gE;rw [show i*4+2+1=i*4+3 from rfl,zK0 (by omega) h];rfl
theorem it_ld:ldX PP 39 4 es (i*4)∧ldC PP 41 4 es (i*4)∧ldX PP 3 4 es (i*4):=by
 obtain ⟨g1,g2,g3,g4,_⟩:=it_g h
 have c4:qE0 4 es (i*4+0) 4=some [.int .i64 t.k,.str t.w,.int .i64 t.a,.osl 1 t.ns]:=by rw [jN0 (by omega) (by omega) (show 0+4≤4 by omega) h];rfl
 have c2:qE0 4 es (i*4+0) 2=some [.int .i64 t.k,.str t.w]:=by rw [jN0 (by omega) (by omega) (show 0+2≤4 by omega) h];rfl
 have c1:qE0 4 es (i*4+0) 1=some [.int .i64 t.k]:=by rw [jN0 (by omega) (by omega) (show 0+1≤4 by omega) h];rfl
 refine ⟨?_,?_,?_⟩
 ·have he:qO0 PP 39 4 es (i*4)=some (.agg [.int .i64 (gI 4 es (i*4) 0),.str (gS 4 es (i*4) 1)]):=by kernel_rfl
  unfold ldX;rw [he,g1,g2]
  change zx0 PP 39 (qE0 4 es (i*4+0) 2)=_
  rw [c2];first | kernel_rfl | rfl
 ·have he:qO0 PP 41 4 es (i*4)=some (.agg [.int .i64 (gI 4 es (i*4) 0),.str (gS 4 es (i*4) 1),.int .i64 (gI 4 es (i*4) 2),.osl 1 (gE 4 es (i*4) 3)]):=by kernel_rfl
  have hl:load PP Heap.empty 41 (.gptr 4 es (i*4))=some (.agg [.int .i64 t.k,.str t.w,.int .i64 t.a,.osl 1 t.ns]):=by
   change zx0 PP 41 (qE0 4 es (i*4+0) 4)=_
   rw [c4];first | kernel_rfl | rfl
  unfold ldC ya0;rw [he,g1,g2,g3,g4,hl];first | kernel_rfl | rfl
 ·have he:qO0 PP 3 4 es (i*4)=some (.int .i64 (gI 4 es (i*4) 0)):=by kernel_rfl
  unfold ldX;rw [he,g1]
  change zx0 PP 3 (qE0 4 es (i*4+0) 1)=_
  rw [c1];first | kernel_rfl | rfl
end four
theorem it_n {es:List V} {i:Nat} {t:It} (h:es[i]?=some (itV t)):ldC PP 28 4 es (Nat.add (i*4) 3):=by
 have g4:gE 4 es (i*4+3) 0=t.ns:=by unfold gE;rw [zK0 (by omega) h];rfl
 have he:qO0 PP 28 4 es (i*4+3)=some (.osl 1 (gE 4 es (i*4+3) 0)):=by kernel_rfl
 have hl:load PP Heap.empty 28 (.gptr 4 es (i*4+3))=some (.osl 1 t.ns):=by
  change zx0 PP 28 (qE0 4 es (i*4+3) 1)=_
  rw [jN0 (by omega) (by omega) (show 3+1≤4 by omega) h];first | kernel_rfl | rfl
 show ldC PP 28 4 es (i*4+3)
 unfold ldC ya0;rw [he,g4,hl];first | kernel_rfl | rfl
theorem ldX_o {es:List V} {i:Nat} {b:Bool} (h:es[i]?=some (.bool b)):ldX PP 4 1 es (i*1)∧ldC PP 4 1 es (i*1)∧gB 1 es (i*1) 0=b:=by
 have hg:gB 1 es (i*1) 0=b:=by
  unfold gB
  rw [show i*1=i*1+0 from rfl,zK0 (by omega) h];rfl
 have he:qO0 PP 4 1 es (i*1)=some (.bool (gB 1 es (i*1) 0)):=by kernel_rfl
 have hl:load PP Heap.empty 4 (.gptr 1 es (i*1))=some (.bool b):=by
  change zx0 PP 4 (qE0 1 es (i*1) 1)=_
  rw [Zq0 h]
  kernel_rfl
 refine ⟨?_,?_,hg⟩
 ·unfold ldX;rw [he,hg,hl]
 ·unfold ldC ya0;rw [he,hg,hl];first | kernel_rfl | rfl
theorem ldX_l {es:List V} {i:Nat} {l:List V} (h:es[i]?=some (.osl 1 l)):ldC PP 28 1 es (i*1)∧gE 1 es (i*1) 0=l:=by
 have hg:gE 1 es (i*1) 0=l:=by
  unfold gE
  rw [show i*1=i*1+0 from rfl,zK0 (by omega) h];rfl
 have he:qO0 PP 28 1 es (i*1)=some (.osl 1 (gE 1 es (i*1) 0)):=by kernel_rfl
 have hl:load PP Heap.empty 28 (.gptr 1 es (i*1))=some (.osl 1 l):=by
  change zx0 PP 28 (qE0 1 es (i*1) 1)=_
  rw [Zq0 h]
  first | kernel_rfl | rfl
 refine ⟨?_,hg⟩
 unfold ldC ya0;rw [he,hg,hl];first | kernel_rfl | rfl
theorem Xo1 (l:List (Int×List UInt8)):GndR (l.map qu0):=fun e he=>by
 obtain ⟨t,_,rfl⟩:=List.mem_map.1 he
 rfl
theorem gnd_it (l:List It):GndR (l.map itV):=fun e he=>by
 obtain ⟨t,_,rfl⟩:=List.mem_map.1 he
 rfl
theorem jX0 (l:List (List UInt8)):GndR (l.map V.str):=fun e he=>by
 obtain ⟨t,_,rfl⟩:=List.mem_map.1 he
 rfl
theorem Xl1 (l:List Int):GndR (l.map (V.int .i64)):=fun e he=>by
 obtain ⟨t,_,rfl⟩:=List.mem_map.1 he
 rfl
theorem jn0 {α:Type} {f:α→V} {l:List α} {i:Nat} (h:i<l.length):(l.map f)[i]?=some (f l[i]):=by rw [List.getElem?_map,List.getElem?_eq_getElem h];rfl
/-- All are the same texts. -/
noncomputable def t3 (v1 v2 n:Nat) (l:List V) (i:Int):Task:=.code (.loop (lpB PP 4 3)) ((base 4 112).on [(9,.sl 0 v1 0 n none),(11,.sl 1 v2 0 n none),(14,.int .i64 i)]) (hp [rwT v1 l,rwT v2 l])
def jT0 (q:Sq):List V:=q.1++(match q.2 with
 | none=>[]
 | some (o,l)=>o.flatMap qK0++l)
theorem JV1 (N:List V) (c:Bool) (q:Sq):jT0 (qe0 N c q)=jT0 q++N:=by
 obtain ⟨ld,x⟩:=q
 cases x with
 | none=>cases c <;> simp [jT0,qe0]
 | some p=>obtain ⟨o,l⟩:=p;cases c <;> simp [jT0,qe0,qK0]
theorem Gw1 (N:List V) (c:Bool) (q:Sq):qx0 (qe0 N c q)=qx0 q+c.toNat:=by
 obtain ⟨ld,x⟩:=q
 cases x with
 | none=>cases c <;> simp [qx0,qe0]
 | some p=>obtain ⟨o,l⟩:=p;cases c <;> simp [qx0,qe0]
theorem JU1 (es ms:List V) (d:Nat):∀ (n:Nat) (q:Sq),jT0 (qa0 es ms d n q)=jT0 q++Qw0 es d n∧qx0 (qa0 es ms d n q)=qx0 q+cntN ms d n:=by
 induction d with
 | zero=>intro n q;exact ⟨(List.append_nil _).symm,rfl⟩
 | succ d IH =>
  intro n q
  obtain ⟨h1,h2⟩:=IH (n+1) (qe0 (nt es n) (cnt ms n) q)
  rw [JV1,List.append_assoc] at h1
  rw [Gw1] at h2
  exact ⟨h1,by rw [show qa0 es ms (d+1) n q=qa0 es ms d (n+1) (qe0 (nt es n) (cnt ms n) q) from rfl,h2];show _=qx0 q+((cnt ms n).toNat+cntN ms d (n+1));omega⟩
theorem qv2 (q:Sq):(je0 q).1++(je0 q).2.flatMap qK0=jT0 q∧(je0 q).2.length=qx0 q:=by
 obtain ⟨ld,x⟩:=q
 cases x with
 | none=>exact ⟨rfl,rfl⟩
 | some p=>obtain ⟨o,l⟩:=p;exact ⟨by simp [je0,jT0,qK0],by simp [je0,qx0]⟩
def Ls (x:V):Prop:=∃ l,x=V.osl 1 l∧GndR l
def LsQ (q:Sq):Prop:=GndR q.1∧∀ o l,q.2=some (o,l)→(∀ x∈o,Ls x)∧GndR l
theorem ls_fin {es ms:List V} (E:En es ms) (d:Nat):∀ (n:Nat) (q:Sq),n+d=es.length→LsQ q→LsQ (qa0 es ms d n q):=by
 induction d with
 | zero=>intro n q _ h;exact h
 | succ d IH =>
  intro n q hn h
  refine IH (n+1) _ (by omega) ?_
  have hg:=E.gnt n (by omega)
  obtain ⟨ld,x⟩:=q
  obtain ⟨h1,h2⟩:=h
  cases x with
  | none =>
   cases cnt ms n
   ·exact ⟨h1.app hg,fun o l e=>by cases e⟩
   ·exact ⟨h1,fun o l e=>by cases e;exact ⟨(fun x hx=>by cases hx),hg⟩⟩
  | some p =>
   obtain ⟨o,l⟩:=p
   obtain ⟨h3,h4⟩:=h2 o l rfl
   cases cnt ms n
   ·exact ⟨h1,fun o' l' e=>by cases e;exact ⟨h3,h4.app hg⟩⟩
   ·exact ⟨h1,fun o' l' e=>by cases e;exact ⟨fun x hx=>(List.mem_append.1 hx).elim (h3 x) (fun hx=>⟨l,List.mem_singleton.1 hx,h4⟩),hg⟩⟩
theorem ls_res {q:Sq} (h:LsQ q):GndR (je0 q).1∧∀ x∈(je0 q).2,Ls x:=by
 obtain ⟨ld,x⟩:=q
 cases x with
 | none=>exact ⟨h.1,fun x hx=>by cases hx⟩
 | some p =>
  obtain ⟨o,l⟩:=p
  obtain ⟨h3,h4⟩:=h.2 o l rfl
  exact ⟨h.1,fun x hx=>(List.mem_append.1 hx).elim (h3 x) (fun hx=>⟨l,List.mem_singleton.1 hx,h4⟩)⟩
theorem QZ1 (es:List V) (d:Nat):∀ n,(Qw0 es d n).length=szQ es d n:=by
 induction d with
 | zero=>intro n;rfl
 | succ d IH=>intro n;show (nt es n++Qw0 es d (n+1)).length=_;rw [List.length_append,IH];rfl
theorem Yb1 (ms:List V) (d:Nat):∀ n,cntN ms d n≤d:=by
 induction d with
 | zero=>intro n;exact Nat.le_refl _
 | succ d IH=>intro n;show (cnt ms n).toNat+cntN ms d (n+1)≤_;have:=IH (n+1);have:=Bool.toNat_le (cnt ms n);omega
noncomputable def hpG (es:List V) (k:Int):Heap:=hp [.row 0 65 2 0 (some 1) [.agg [.osl 1 es,.int .i64 k]]]
noncomputable def dG (h:Heap):Option (List V×Int) :=
 match h.get 0 with
 | .row _ _ _ _ _ es=>(match es with
  | e::_=>(match e with
   | .agg cs=>(match cs with
    | l::p::_=>(match l with
     | .osl _ es=>(match p with
      | .int _ a=>some (es,a)
      | _=>none)
     | _=>none)
    | _=>none)
   | _=>none)
  | _=>none)
 | _=>none
noncomputable def hpL (ver:Nat) (l:List V):Heap:=hp [.row ver 39 2 0 none l]
noncomputable def dL (h:Heap):Option (Nat×List V) :=
 match h.get 0 with
 | .row ver _ _ _ _ es=>some (ver,es)
 | _=>none
structure Lx where
 s:List UInt8
 at1:Int
 ver:Nat
 n:Nat
 l:List V
 o:List V
 i:Bool
 e:Int
 z:Bool
noncomputable def rL (b:Bool) (a:Lx):Res:=Bool.rec (.ret (.agg [.str a.s,.int .i64 a.at1,.nils,.osl 1 a.o,.bool a.i,.int .i64 11]) Heap.empty) (.ret (.agg [.str a.s,.int .i64 a.at1,.sl 0 a.ver 0 a.n none,.osl 1 a.o,.bool a.i,.int .i64 a.e]) (hpL a.ver a.l)) b
noncomputable def rLx (a:Lx):Res:=rL a.z a
noncomputable def rEm (a:List V):Res:=.ret (.osl 1 a) Heap.empty
noncomputable def rE4 (a:List V):Res:=.ret (.osl 4 a) Heap.empty
noncomputable def rTk (a:Int×List UInt8):Res:=.ret (.agg [.int .i64 a.1,.str a.2]) Heap.empty
noncomputable def rGS (a:List V×Int×List UInt8):Res:=.ret (.str a.2.2) (hpG a.1 a.2.1)
noncomputable def rGI (a:List V×Int×Int):Res:=.ret (.int .i64 a.2.2) (hpG a.1 a.2.1)
noncomputable def rTT (a:List V×Int×Int):Res:=.ret (.tup [.osl 2 a.1,.int .i64 a.2.1,.int .i64 a.2.2]) Heap.empty
noncomputable def rIT (a:List V×List V):Res:=.ret (.tup [.osl 1 a.1,.osl 4 a.2]) Heap.empty
noncomputable def rJ (fr:Fr) (a:List UInt8×Int):Res:=.code (.exit 0) ((base fr.fn fr.n).on [(0,.str a.1),(3,.int .i64 a.2)]) Heap.empty
noncomputable def rJ2 (fr:Fr) (b:Bool) (a:Bool×List UInt8×Int×Int):Res:=Bool.rec (.code .ret ((base fr.fn fr.n).on [(0,.str a.2.1),(2,.int .i64 a.2.2.2),(3,.int .i64 a.2.2.1)]) Heap.empty) (.code (.exit 0) ((base fr.fn fr.n).on [(0,.str a.2.1),(3,.int .i64 a.2.2.1)]) Heap.empty) b
noncomputable def rJ3 (fr:Fr) (b:Bool) (a:Bool×List UInt8×Int):Res:=Bool.rec (.code .ret ((base fr.fn fr.n).on [(0,.str a.2.1),(2,.int .i64 a.2.2)]) Heap.empty) (.code (.exit 0) ((base fr.fn fr.n).on [(0,.str a.2.1)]) Heap.empty) b
noncomputable def rJ4 (fr:Fr) (b:Bool) (a:Bool×List UInt8×Int×Int×Int):Res:=Bool.rec (.code .ret ((base fr.fn fr.n).on [(0,.str a.2.1),(2,.int .i64 a.2.2.2.2),(3,.int .i64 a.2.2.1),(4,.int .i64 a.2.2.2.1)]) Heap.empty) (.code (.exit 0) ((base fr.fn fr.n).on [(0,.str a.2.1),(3,.int .i64 a.2.2.1),(4,.int .i64 a.2.2.2.1)]) Heap.empty) b
noncomputable def rS4 (fr:Fr) (a:List V×List UInt8):Res:=.code (.exit 0) ((base fr.fn fr.n).on [(0,.osl 1 a.1),(4,.str a.2)]) Heap.empty
noncomputable def rJL (fr:Fr) (a:Lx):Res:=.code (.exit 0) ((base fr.fn fr.n).on [(0,.str a.s),(6,.ptr 0 0 0)]) (hp [.row 0 46 6 0 (some 1) [.agg [.str a.s,.int .i64 a.at1,.sl 1 a.ver 0 a.n none,.osl 1 a.o,.bool a.i,.int .i64 a.e]],.row a.ver 39 2 0 none a.l])
structure Ix where
 es:List V
 b1:Bool
 v1:Nat
 n1:Nat
 l1:List V
 b2:Bool
 v2:Nat
 n2:Nat
 l2:List V
abbrev strR (ver:Nat) (l:List V):Obj:=.row ver 9 1 0 none l
abbrev QQ0 (ver:Nat) (l:List V):Obj:=.row ver 41 4 0 none l
noncomputable def rIx (fr:Fr) (b1 b2:Bool) (a:Ix):Res:=Bool.rec
 (Bool.rec (.code (.exit 0) ((base fr.fn fr.n).on [(0,.osl 2 a.es),(4,.nils),(5,.nils)]) Heap.empty) (.code (.exit 0) ((base fr.fn fr.n).on [(0,.osl 2 a.es),(4,.nils),(5,.sl 0 a.v2 0 a.n2 none)]) (hp [QQ0 a.v2 a.l2])) b2)
 (Bool.rec (.code (.exit 0) ((base fr.fn fr.n).on [(0,.osl 2 a.es),(4,.sl 0 a.v1 0 a.n1 none),(5,.nils)]) (hp [strR a.v1 a.l1])) (.code (.exit 0) ((base fr.fn fr.n).on [(0,.osl 2 a.es),(4,.sl 0 a.v1 0 a.n1 none),(5,.sl 1 a.v2 0 a.n2 none)]) (hp [strR a.v1 a.l1,QQ0 a.v2 a.l2])) b2) b1
noncomputable def rMx (fr:Fr) (b:Bool) (a:Bool×Nat×Nat×List V×List V):Res:=Bool.rec (.code (.exit 0) ((base fr.fn fr.n).on [(1,.osl 1 a.2.2.2.2),(15,.nils)]) Heap.empty) (.code (.exit 0) ((base fr.fn fr.n).on [(1,.osl 1 a.2.2.2.2),(15,.sl 0 a.2.1 0 a.2.2.1 none)]) (hp [QQ0 a.2.1 a.2.2.2.1])) b
noncomputable def rOb (fr:Fr) (a:List V×Int×Int×List UInt8):Res:=.code (.exit 0) ((base fr.fn fr.n).on [(0,.ptr 0 0 0),(1,.int .i64 a.2.2.1),(5,.str a.2.2.2)]) (hpG a.1 a.2.1)
structure PmX where
 I:Task→PR Int Int
 O:Task→PR Bool Int
 W:Task→PR (List UInt8) Int
 E:Task→PR (List V) Int
 K:Task→PR (Int×List UInt8) Int
 GS:Task→PR (List V×Int×List UInt8) Int
 GI:Task→PR (List V×Int×Int) Int
 TT:Task→PR (List V×Int×Int) Int
 IT:Task→PR (List V×List V) Int
 PG:Task→PR Int Int
 L:Task→PR Lx Int
 J:Task→PR (List UInt8×Int) Int
 J2:Task→PR (Bool×List UInt8×Int×Int) Int
 J3:Task→PR (Bool×List UInt8×Int) Int
 J4:Task→PR (Bool×List UInt8×Int×Int×Int) Int
 S4:Task→PR (List V×List UInt8) Int
 JL:Task→PR Lx Int
 Ix:Task→PR Ix Int
 Mx:Task→PR (Bool×Nat×Nat×List V×List V) Int
 Ob:Task→PR (List V×Int×Int×List UInt8) Int
 E4:Task→PR (List V) Int
noncomputable def tbMK (X:PmX) (t:Task) (k:Nat):Option Ent :=
 match k with
 | 1=>some (ent (X.I t) rI qN)
 | 2=>some (ent (X.O t) rO qN)
 | 3=>some (ent (X.W t) rW qN)
 | 4=>some (ent (X.E t) rEm qN)
 | 5=>some (ent (X.K t) rTk qN)
 | 6=>some (ent (X.GS t) rGS qN)
 | 7=>some (ent (X.GI t) rGI qN)
 | 8=>some (ent (X.TT t) rTT qN)
 | 9=>some (ent (X.IT t) rIT qN)
 | 12=>some (ent (X.E4 t) rE4 qN)
 | 11=>some (ji0 (X.L t) (fun a=>a.z) (rL) qN)
 | _=>none
def kindM:T Nat:=(.n (.n (.n (.n (.n (.n .e 0 (.n .e 6 .e)) 3 (.n .e 1 .e)) 9 (.n .e 1 (.n .e 6 .e))) 0 (.n (.n .e 0 (.n .e 1 .e)) 0 (.n (.n .e 1 .e) 6 (.n (.n .e 2 .e) 0 .e)))) 0 (.n (.n (.n .e 2 (.n .e 2 .e)) 0 (.n .e 5 (.n (.n .e 2 .e) 6 .e))) 8 (.n (.n .e 0 (.n .e 6 .e)) 11 (.n (.n .e 2 .e) 0 (.n (.n .e 4 .e) 0 .e))))) 0 (.n (.n (.n (.n .e 4 (.n .e 1 .e)) 0 (.n .e 11 (.n .e 6 .e))) 0 (.n (.n .e 0 (.n .e 1 .e)) 1 (.n (.n .e 1 .e) 0 (.n (.n .e 1 .e) 0 .e)))) 0 (.n (.n (.n .e 0 (.n .e 1 .e)) 0 (.n .e 7 (.n (.n .e 1 .e) 10 .e))) 0 (.n (.n .e 1 (.n .e 6 .e)) 11 (.n (.n .e 1 .e) 0 (.n (.n .e 6 .e) 0 .e))))))
def kindML:T Nat:=(.n (.n (.n (.n (.n .e 0 (.n .e 2 .e)) 7 (.n .e 2 .e)) 0 .e) 0 (.n .e 6 .e)) 0 (.n (.n (.n (.n .e 0 (.n .e 1 .e)) 0 .e) 0 (.n (.n .e 0 (.n .e 3 .e)) 3 (.n (.n .e 3 .e) 0 (.n (.n .e 1 .e) 0 .e)))) 0 (.n (.n (.n .e 0 (.n .e 1 .e)) 0 (.n .e 0 (.n (.n .e 1 .e) 0 .e))) 0 (.n (.n .e 4 .e) 0 (.n (.n .e 1 .e) 0 (.n (.n .e 9 .e) 0 .e))))))
noncomputable def tbML (X:PmX) (t:Task) (fr:Fr):Option Ent :=
 match T.get 0 kindML fr.fn with
 | 1=>some (ent (X.J t) (rJ fr) qN)
 | 2=>some (ji0 (X.J2 t) (fun a=>a.1) (rJ2 fr) qN)
 | 3=>some (ji0 (X.J3 t) (fun a=>a.1) (rJ3 fr) qN)
 | 4=>some (ji0 (X.J4 t) (fun a=>a.1) (rJ4 fr) qN)
 | 5=>some (ent (X.S4 t) (rS4 fr) qN)
 | 6=>some (ent (X.JL t) (rJL fr) qN)
 | 7=>some (ent4 (X.Ix t) (fun a=>a.b1) (fun a=>a.b2) (rIx fr) qN)
 | 8=>some (ji0 (X.Mx t) (fun a=>a.1) (rMx fr) qN)
 | 9=>some (ent (X.Ob t) (rOb fr) qN)
 | _=>none
noncomputable def qh0 (X:PmX) (t:Task):Option Ent :=
 match t with
 | .call f _ _=>tbMK X t (T.get 0 kindM f)
 | .code c fr _=>(match c with
  | .loop _=>tbML X t fr
  | _=>none)
 | _=>none
noncomputable def XM (n:Nat):PmX where
 I:=fun t=>exR rI qN (rn PP EP CP n t)
 O:=fun t=>exR rO qN (rn PP EP CP n t)
 W:=fun t=>exR rW qN (rn PP EP CP n t)
 E:=fun t=>exR rEm qN (rn PP EP CP n t)
 K:=fun t=>exR rTk qN (rn PP EP CP n t)
 GS:=fun t=>exR rGS qN (rn PP EP CP n t)
 GI:=fun t=>exR rGI qN (rn PP EP CP n t)
 TT:=fun t=>exR rTT qN (rn PP EP CP n t)
 IT:=fun t=>exR rIT qN (rn PP EP CP n t)
 PG:=fun t=>exR rI qN (rn PP EP CP n t)
 L:=fun t=>exR rLx qN (rn PP EP CP n t)
 J:=fun t=>exR (rJ (frO t)) qN (rn PP EP CP n t)
 J2:=fun t=>exR (fun a=>rJ2 (frO t) a.1 a) qN (rn PP EP CP n t)
 J3:=fun t=>exR (fun a=>rJ3 (frO t) a.1 a) qN (rn PP EP CP n t)
 J4:=fun t=>exR (fun a=>rJ4 (frO t) a.1 a) qN (rn PP EP CP n t)
 S4:=fun t=>exR (rS4 (frO t)) qN (rn PP EP CP n t)
 JL:=fun t=>exR (rJL (frO t)) qN (rn PP EP CP n t)
 Ix:=fun t=>exR (fun a=>rIx (frO t) a.b1 a.b2 a) qN (rn PP EP CP n t)
 Mx:=fun t=>exR (fun a=>rMx (frO t) a.1 a) qN (rn PP EP CP n t)
 Ob:=fun t=>exR (rOb (frO t)) qN (rn PP EP CP n t)
 E4:=fun t=>exR rE4 qN (rn PP EP CP n t)
def Ok1 {α ε:Type} (K:PmX→PR α ε) (P:α→Prop):Prop:=∃ a,P a∧Evt fun n=>K (XM n)=.ok a
theorem Rn.bndO {α ε:Type} {K:PmX→PR α ε} {P:α→Prop} {f:α→Nat→Option Res} {g:ε→Nat→Option Res} {Q:Res→Prop} (h:Ok1 K P) (hf:∀ a,P a→Rn (f a) Q):Rn (fun n=>PR.bnd none (K (XM n)) (fun a=>f a n) (fun e=>g e n)) Q:=by
 obtain ⟨a,hP,hE⟩:=h
 exact .bnd hE (hf a hP)
theorem Tk.of {X:Nat→PmX} (hX:∀ n,jE0 (rn PP EP CP n) (qh0 (X n))) {t:Task} {Q:Res→Prop} (h:Rn (fun n=>evN PP EP CP (qh0 (X n)) (rn PP EP CP n) none t some) Q):∃ r,Q r∧Tk t r:=by
 obtain ⟨r,hr,a,hE⟩:=h
 refine ⟨r,hr,a+1,fun n hn=>?_⟩
 obtain ⟨n,rfl⟩:∃ m,n=m+1:=⟨n-1,by omega⟩
 have h1:=KN0 (bot:=(none:Option Res)) (hX n) t some
 have h2:evN PP EP CP (qh0 (X n)) (rn PP EP CP n) none t some=some r:=hE n (by omega)
 rw [h2] at h1
 rcases h1 with h1 | h1
 ·cases h1
 ·exact (Option.some.inj h1).symm
theorem tblXM (n:Nat):jE0 (rn PP EP CP n) (qh0 (XM n)):=by
 intro t e he
 unfold qh0 at he
 split at he
 ·unfold tbMK at he
  split at he <;> first | (cases he;done) | exact jj0 (Option.some.inj he) | exact jQ0 (Option.some.inj he)
 ·rename_i c fr h
  split at he
  ·unfold tbML at he
   split at he <;> first | (cases he;done) | exact jj0 (R:=rJ fr) (Option.some.inj he) | exact jQ0 (R:=rJ2 fr) (Option.some.inj he) | exact jQ0 (R:=rJ3 fr) (Option.some.inj he) | exact jQ0 (R:=rJ4 fr) (Option.some.inj he) | exact jj0 (R:=rS4 fr) (Option.some.inj he) | exact jj0 (R:=rJL fr) (Option.some.inj he) | exact jj0 (R:=rOb fr) (Option.some.inj he) | exact jQ0 (R:=rMx fr) (Option.some.inj he) | exact zr1 (R:=rIx fr) (Option.some.inj he)
  ·cases he
 ·cases he
theorem Tk.by {t:Task} {Q:Res→Prop} (h:Rn (fun n=>evN PP EP CP (qh0 (XM n)) (rn PP EP CP n) none t some) Q):∃ r,Q r∧Tk t r:=Tk.of tblXM h
theorem Ok1.tk {α ε:Type} {K:PmX→PR α ε} {R:α→Res} {Q:ε→Res} {L:Res→α} {t:Task} {P:α→Prop} (hK:∀ n,K (XM n)=exR R Q (rn PP EP CP n t)) (hL:∀ a,L (R a)=a) (h:∃ r,(∃ a,r=R a∧P a)∧Tk t r):Ok1 K P:=by
 obtain ⟨r,⟨a,rfl,hP⟩,hT⟩:=h
 exact ⟨a,hP,hT.mono fun n h=>by show K (XM n)=_;rw [hK,show rn PP EP CP n t=R a from h];exact exR_L hL a⟩
theorem Ok1.any {α ε:Type} {K:PmX→PR α ε} {R:α→Res} {Q:ε→Res} {t:Task} {P:α→Prop} (hK:∀ n,K (XM n)=exR R Q (rn PP EP CP n t)) (h:∃ r,(∃ a,r=R a∧∀ a',R a'=R a→P a')∧Tk t r):Ok1 K P:=by
 obtain ⟨r,⟨a,rfl,hP⟩,hT⟩:=h
 obtain ⟨a',h1,h2⟩:=Zy0 (R:=R) (Q:=Q) a
 exact ⟨a',hP a' h1,hT.mono fun n h=>by show K (XM n)=_;rw [hK,show rn PP EP CP n t=R a from h,h2]⟩
theorem Ok1.weak {α ε:Type} {K:PmX→PR α ε} {P P':α→Prop} (h:Ok1 K P) (hp:∀ a,P a→P' a):Ok1 K P':=by
 obtain ⟨a,h1,h2⟩:=h
 exact ⟨a,hp a h1,h2⟩
end Go.AM
