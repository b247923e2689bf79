/-
  WHAT FUNCTIONS OF THE PROGRAM COME TO: walked over states of which a part is known. No condition but what each theorem says of its arguments.
-/
import Derived.Test.YtejbaikaiifpaaaDoorLaysP8
import Derived.Test.YtejbaikaiifpaaaDoorLaysP9
namespace Go.AM
open Go.Proofs
set_option maxRecDepth 100000
set_option maxHeartbeats 4000000
theorem cLeaves {h:Heap} {d:Dc}:Cs Tryd.prog EU 56 [encD d] h (.func (.func 69) [] [.ptr h.n 0 0]) (newRow h 26 4 0 (some 1) [encD d]):=by
 refine Cs.body (fn:=Tryd.f56) Tryd.func56 rfl (by kernel_rfl) ?_
 refine Wc.seq (Wc.wn0 [(0,(.agg [(.int .i64 (d.kind)),(.str (d.text)),(.int .i64 (d.n)),(.osl 4 (esD d))])),(1,(.ptr (h.n) 0 0)),(2,.nilf)] (newRow h 26 (List.len (V.cells (V.agg [V.int .i64 d.kind,V.str d.text,V.int .i64 d.n,V.osl 4 (esD d)]))) 0 (some 1) [V.agg [V.int .i64 d.kind,V.str d.text,V.int .i64 d.n,V.osl 4 (esD d)]]) ?_)
 refine Wc.seq (Wc.w0 [(2,(.func (.func 69) [] [(.ptr (h.n) 0 0)]))] ?_)
 refine Wc.ret ?_
 refine retX.mk (.func (.func 69) [] [(.ptr (h.n) 0 0)]) ⟨rfl,rfl⟩ (by kernel_rfl) ?_
 exact ⟨by kernel_rfl,by kernel_rfl⟩
end Go.AM
namespace Go.AM
open Go.Proofs
set_option maxRecDepth 100000
set_option maxHeartbeats 4000000
structure Yr (A:Type) where
 own:A→Nat→Prop
 G:A→Heap→Prop
 St:A→Heap→Prop
 T:A→Dc→Bool→A→Prop
 wt:A→Nat
 low:∀ {a h r},G a h→own a r→r<h.n
 stay:∀ {a h h'},G a h→h.n≤h'.n→(∀ r,own a r→h'.get r=h.get r)→G a h'
 stop:∀ {a h h'},St a h→h.n≤h'.n→(∀ r,own a r→h'.get r=h.get r)→St a h'
def Kp (own own':Nat→Prop) (h h':Heap):Prop:=h.n≤h'.n∧(∀ r,r<h.n→¬ own r→h'.get r=h.get r)∧(∀ r,own' r→own r∨h.n≤r)
theorem Kp.refl (own:Nat→Prop) (h:Heap):Kp own own h h:=⟨Nat.le_refl _,fun _ _ _=>rfl,fun _ q=>.inl q⟩
theorem Kp.trans {a b c:Nat→Prop} {h1 h2 h3:Heap} (p:Kp a b h1 h2) (q:Kp b c h2 h3):Kp a c h1 h3:=by
 refine ⟨Nat.le_trans p.1 q.1,fun r hr ho=>?_,fun r hr=>?_⟩
 ·rw [q.2.1 r (Nat.lt_of_lt_of_le hr p.1) (fun hb=>?_),p.2.1 r hr ho]
  rcases p.2.2 r hb with e | e
  ·exact ho e
  ·omega
 ·rcases q.2.2 r hr with e | e
  ·exact p.2.2 r e
  ·exact .inr (Nat.le_trans p.1 e)
inductive RunY {A:Type} (T:A→Dc→Bool→A→Prop):A→List Dc→Bool→A→Prop
 | nil (a:A):RunY T a [] true a
 | cons {a a1 a2:A} {x:Dc} {l:List Dc} {b:Bool} (h:T a x true a1) (t:RunY T a1 l b a2):RunY T a (x::l) b a2
 | stop {a a1:A} {x:Dc} {l:List Dc} (h:T a x false a1):RunY T a (x::l) false a1
theorem RunY.app {A:Type} {T:A→Dc→Bool→A→Prop} {a a1 a2:A} {l m:List Dc} {b:Bool} (h:RunY T a l true a1) (k:RunY T a1 m b a2):RunY T a (l++m) b a2:=by
 generalize hb:true=c at h
 induction h with
 | nil a=>exact k
 | cons h t IH=>exact .cons h (IH k hb)
 | stop h=>cases hb
theorem RunY.left {A:Type} {T:A→Dc→Bool→A→Prop} {a a1:A} {l:List Dc} (m:List Dc) (h:RunY T a l false a1):RunY T a (l++m) false a1:=by
 generalize hb:false=c at h
 induction h with
 | nil a=>cases hb
 | cons h t IH=>exact .cons h (IH hb)
 | stop h=>exact .stop h
def q56 (d:Dc):List Dc:=if d.kind<5 then [d] else (d.kids.attach.map fun k=>q56 k.1).flatten
termination_by SizeOf.sizeOf d
decreasing_by exact qp3 k.2
theorem qh1 (d:Dc):q56 d=if d.kind<5 then [d] else (d.kids.map q56).flatten:=by
 rw [q56]
 congr 2
 conv=>rhs;rw [← List.attach_map_subtype_val d.kids,List.map_map]
 rfl
def q84 (l:List Dc) (i:Nat):List Dc:=((l.take i).map q56).flatten
theorem zx2 (l:List Dc) {i:Nat} (hi:i<l.length):q84 l (i+1)=q84 l i++q56 (l.getD i dc0):=by
 unfold q84
 rw [List.take_add_one,List.map_append,List.flatten_append,List.getD_eq_getElem?_getD,List.getElem?_eq_getElem hi]
 simp
def sumK (l:List Dc) (i:Nat):Nat:=((l.take i).map szD).sum
theorem xi5 (l:List Dc) {i:Nat} (hi:i<l.length):sumK l (i+1)=sumK l i+szD (l.getD i dc0):=by
 unfold sumK
 rw [List.take_add_one,List.map_append,List.sum_append,List.getD_eq_getElem?_getD,List.getElem?_eq_getElem hi]
 simp
theorem x76 (d:Dc) {i:Nat} (hi:i≤d.kids.length):sumK d.kids i<szD d:=by
 have h:sumK d.kids i≤(d.kids.map szD).sum:=by
  unfold sumK
  conv=>rhs;rw [← List.take_append_drop i d.kids,List.map_append,List.sum_append]
  omega
 have:=qa8 d;omega
def Yr.Ok {A:Type} (Y:Yr A) (l B:Nat):Prop:=∀ {a:A} {h:Heap} {x:Dc},Y.G a h→x.kind<5→Y.wt a+szD x≤B →
 Yx Tryd.prog EU l [encD x] h (fun v h'=>∃ a',Y.T a x v a'∧Kp (Y.own a) (Y.own a') h h'∧(if v then Y.G a' h' else Y.St a' h')∧Y.wt a'≤Y.wt a+szD x)
def j94 {A:Type} (Y:Yr A) (a:A) (h:Heap) (d:Dc) (v:V) (h':Heap):Prop:=v=.tup []∧∃ b a',RunY Y.T a (q56 d) b a'∧Kp (Y.own a) (Y.own a') h h'∧(if b then Y.G a' h' else Y.St a' h')∧Y.wt a'≤Y.wt a+szD d
def x07 {A:Type} (Y:Yr A) (l l2 q:Nat) (tm:AM.T V) (dn:Nat):Yr A where
 own a p:=Y.own a p∨p=l2∨p=q
 G a hh:=Y.G a hh∧(l2<hh.n∧q<hh.n∧¬ Y.own a l2∧¬ Y.own a q∧q≠l2)∧hh.get l2=.loop .ready none 69 27 tm [21] (rAs Tryd.prog 69 0) (rBd Tryd.prog 69 0) dn∧hh.get q=.row 0 28 1 0 (some 1) [.func (.yield l) [] []]
 St a hh:=Y.St a hh∧(l2<hh.n∧q<hh.n∧¬ Y.own a l2∧¬ Y.own a q∧q≠l2)∧hh.get l2=.loop .done (some .ret) 69 27 tm [21] (rAs Tryd.prog 69 0) (rBd Tryd.prog 69 0) dn∧hh.get q=.row 0 28 1 0 (some 1) [.func (.yield l) [] []]
 T:=Y.T
 wt:=Y.wt
 low:=by
  rintro a h r ⟨h1,h2,_⟩ (h3 | rfl | rfl)
  ·exact Y.low h1 h3
  ·exact h2.1
  ·exact h2.2.1
 stay:=by
  rintro a h h' ⟨h1,h2,h3,h4⟩ hn hr
  exact ⟨Y.stay h1 hn fun r ho=>hr r (.inl ho),⟨by omega,by omega,h2.2.2⟩,by rw [hr l2 (.inr (.inl rfl))];exact h3,by rw [hr q (.inr (.inr rfl))];exact h4⟩
 stop:=by
  rintro a h h' ⟨h1,h2,h3,h4⟩ hn hr
  exact ⟨Y.stop h1 hn fun r ho=>hr r (.inl ho),⟨by omega,by omega,h2.2.2⟩,by rw [hr l2 (.inr (.inl rfl))];exact h3,by rw [hr q (.inr (.inr rfl))];exact h4⟩
theorem j19 {A:Type} {Y:Yr A} {l B l2 q dn:Nat} {tm:AM.T V} {v4 v13 v14 v15 v20:V} (hY:Y.Ok l B) (hT:TSat 27 [(2,.ptr q 0 0),(4,v4),(13,v13),(14,v14),(15,v15),(20,v20)] tm):(x07 Y l l2 q tm dn).Ok l2 B:=by
 rintro a h x ⟨hG,⟨w1,w2,w3,w4,w5⟩,hl2,hq⟩ hx hB
 refine Ev.yield (L0:=[(2,.ptr q 0 0),(4,v4),(13,v13),(14,v14),(15,v15),(20,v20)]) [2,21] [(2,.ptr q 0 0),(21,encD x)] hl2 hT (by kernel_rfl) ?_
 refine Wc.enter (Wl.bn0 0 1 [(2,(.ptr (q) 0 0)),(5,(.ptr (h.n) 0 0)),(21,(.agg [(.int .i64 (x.kind)),(.str (x.text)),(.int .i64 (x.n)),(.osl 4 (esD x))]))] (newRow h 26 4 0 (some 1) [V.agg [V.int .i64 0,V.str [],V.int .i64 0,V.nils]]) ?_)
 obtain ⟨h3,hst,n3,g3,g3u⟩:=zo7 (P:=Tryd.prog) (h:=h) (t:=26) (ty:=26) (sz:=4) (c:=some 1) (z:=.agg [V.int IntKind.i64 0,V.str [],V.int IntKind.i64 0,V.nils]) (v:=encD x) (by kernel_rfl)
 obtain ⟨u,hu⟩:∃ u,u=h.n:=⟨_,rfl⟩
 rw [← hu] at hst g3u ⊢
 refine Wl.storeE (b:=qk5 69 27 l2) (t:=26) (a:=.ptr u 0 0) (v:=encD x) (d:=none) 1 [2,5] [(2,(.ptr (q) 0 0)),(5,(.ptr u 0 0))] (by kernel_rfl) hst (by kernel_rfl) ?_
 refine Wl.dn 2 ?_
 refine qj8.mk none (by rw [g3 l2 w1];exact hl2) ?_
 obtain ⟨h4,hh4⟩:∃ h4,h4=h3.set l2 (.loop .busy none 69 27 tm [21] (rAs Tryd.prog 69 0) (rBd Tryd.prog 69 0) dn):=⟨_,rfl⟩
 rw [← hh4]
 have n4:h4.n=h.n+1:=by rw [hh4,Heap.n_set,n3]
 have g4:∀ p,p≠l2→p<h.n→h4.get p=h.get p:=fun p hp hp2=>by rw [hh4,Heap.get_set,if_neg (fun e=>hp e.symm),g3 p hp2]
 have g4l:h4.get l2=.loop .busy none 69 27 tm [21] (rAs Tryd.prog 69 0) (rBd Tryd.prog 69 0) dn:=by rw [hh4,Heap.get_set,if_pos rfl]
 have g4u:h4.get u=.row 0 26 4 0 (some 1) [encD x]:=by rw [hh4,Heap.get_set,if_neg (by omega),g3u]
 have g4q:h4.get q=.row 0 28 1 0 (some 1) [.func (.yield l) [] []]:=by rw [g4 q w5 w2];exact hq
 have lu:load Tryd.prog h4 26 (.ptr u 0 0)=some (encD x):=y4 g4u (by kernel_rfl)
 have lq:load Tryd.prog h4 28 (.ptr q 0 0)=some (.func (.yield l) [] []):=y4 g4q (by kernel_rfl)
 have hG4:Y.G a h4:=Y.stay hG (by omega) fun p hp=>g4 p (fun e=>w3 (by rw [← e];exact hp)) (Y.low hG hp)
 refine Wc.block (Wc.seq (Wc.enter (Wl.l 0 [(2,(.ptr (q) 0 0)),(5,(.ptr (u) 0 0)),(22,(.func (.yield (l)) [] []))] (@lq) ?_)))
 refine Wl.l 1 [(23,(.agg [(.int .i64 (x.kind)),(.str (x.text)),(.int .i64 (x.n)),(.osl 4 (esD x))]))] (@lu) ?_
 refine Wl.yieldX (b:=qk5 69 27 l2) (l:=l) (args:=[encD x]) (h1:=h4) (d:=some 24) 2 (by kernel_rfl) ((hY hG4 hx hB).mono ?_)
 rintro v h5 ⟨a',t1,t2,t3,t4⟩
 have hl':¬ Y.own a' l2:=fun e=>(t2.2.2 l2 e).elim w3 (by omega)
 have hq':¬ Y.own a' q:=fun e=>(t2.2.2 q e).elim w4 (by omega)
 have g5l:h5.get l2=.loop .busy none 69 27 tm [21] (rAs Tryd.prog 69 0) (rBd Tryd.prog 69 0) dn:=by rw [t2.2.1 l2 (by omega) w3];exact g4l
 have g5q:h5.get q=.row 0 28 1 0 (some 1) [.func (.yield l) [] []]:=by rw [t2.2.1 q (by omega) w4];exact g4q
 have n5:=t2.1
 have hK:∀ o,Kp (fun p=>Y.own a p∨p=l2∨p=q) (fun p=>Y.own a' p∨p=l2∨p=q) h (h5.set l2 o):=fun o=>by
  refine ⟨by rw [Heap.n_set];omega,fun r hr ho=>?_,fun r hr=>?_⟩
  ·simp only [not_or] at ho
   rw [Heap.get_set,if_neg (fun e=>ho.2.1 e.symm),t2.2.1 r (by omega) ho.1,g4 r ho.2.1 hr]
  rcases hr with e | e
  ·rcases t2.2.2 r e with e | e
   ·exact .inl (.inl e)
   exact .inr (by omega)
  exact .inl (.inr e)
 have hS:∀ o r,Y.own a' r→(h5.set l2 o).get r=h5.get r:=fun o r hr=>by rw [Heap.get_set,if_neg (fun e=>hl' (by rw [e];exact hr))]
 have hb:∀ o,l2<(h5.set l2 o).n∧q<(h5.set l2 o).n∧¬ Y.own a' l2∧¬ Y.own a' q∧q≠l2:=fun o=>by rw [Heap.n_set];exact ⟨by omega,by omega,hl',hq',w5⟩
 have hgq:∀ o,(h5.set l2 o).get q=.row 0 28 1 0 (some 1) [.func (.yield l) [] []]:=fun o=>by rw [Heap.get_set,if_neg (fun e=>w5 e.symm)];exact g5q
 cases v with
 | true =>
  refine qg4.mk [24] [(24,.bool true)] (by kernel_rfl) ?_
  refine Wl.bn0 3 4 [(25,(.bool false))] h5 ?_
  refine Wl.dn 4 (Wc.cf (Wc.skip ?_))
  exact yEnd.mk none g5l ⟨a',t1,hK _,⟨Y.stay (h':=h5.set l2 _) t3 (by rw [Heap.n_set];exact Nat.le_refl _) (hS _),hb _,by rw [Heap.get_set,if_pos rfl],hgq _⟩,t4⟩
 | false =>
  refine qg4.mk [24] [(24,.bool false)] (by kernel_rfl) ?_
  refine Wl.bn0 3 4 [(25,(.bool true))] h5 ?_
  refine Wl.dn 4 (Wc.ct (Wc.ret (z8.ret ?_)))
  exact yOut.ret none g5l ⟨a',t1,hK _,⟨Y.stop (h':=h5.set l2 _) t3 (by rw [Heap.n_set];exact Nat.le_refl _) (hS _),hb _,by rw [Heap.get_set,if_pos rfl],hgq _⟩,t4⟩
def ja9 (ms:List Nat):Fr:=⟨69,27,.e,ms,[],none,none,false⟩
def xv8 {A:Type} (Y:Yr A) (a:A) (h1:Heap) (q l:Nat) (d:Dc) (s:Nat×A×Heap×List Nat):Prop :=
 s.1≤d.kids.length∧RunY Y.T a (q84 d.kids s.1) true s.2.1∧Kp (Y.own a) (Y.own s.2.1) h1 s.2.2.1∧Y.G s.2.1 s.2.2.1∧Y.wt s.2.1≤Y.wt a+sumK d.kids s.1∧(∀ m,m∈s.2.2.2→h1.n≤m∧m<s.2.2.1.n∧s.2.2.1.get m=.defs∧¬ Y.own s.2.1 m)∧s.2.2.2.Nodup∧s.2.2.1.get q=.row 0 28 1 0 (some 1) [.func (.yield l) [] []]
theorem j99 {B:Nat} (hB9:B≤1000000000):∀ (n:Nat) {d:Dc},szD d≤n→∀ {l:Nat} {A:Type} (Y:Yr A),Y.Ok l B→∀ {a:A} {h:Heap} {r:Nat},Y.G a h→h.get r=.row 0 26 4 0 (some 1) [encD d]→¬ Y.own a r→r<h.n→Y.wt a+szD d≤B→Cx Tryd.prog EU 69 [.func (.yield l) [] [],.ptr r 0 0] h (j94 Y a h d):=by
 intro n
 induction n with
 | zero=>intro d h0;have:=q07 d;omega
 | succ n IH =>
  intro d hd l A Y hY a h r hG hr hor hrn hB
  refine Ev.body (fn:=Tryd.f69) Tryd.func69 rfl (by kernel_rfl) ?_
  refine Wc.seq ?_
  obtain ⟨q,hq⟩:∃ q,q=h.n:=⟨_,rfl⟩
  obtain ⟨h1,hh1⟩:∃ h1,h1=newRow h 28 1 0 (some 1) [.func (.yield l) [] []]:=⟨_,rfl⟩
  have n1:h1.n=h.n+1:=by rw [hh1];exact qh5 _ _ _ _ _ _
  have g1:∀ p,p<h.n→h1.get p=h.get p:=fun p hp=>by rw [hh1,q34,if_neg (by omega)]
  have g1r:h1.get r=.row 0 26 4 0 (some 1) [encD d]:=by rw [g1 r hrn];exact hr
  have g1q:h1.get q=.row 0 28 1 0 (some 1) [.func (.yield l) [] []]:=by rw [hh1,q34,if_pos hq.symm]
  have hqo:¬ Y.own a q:=fun e=>by have:=Y.low hG e;omega
  have hqr:q≠r:=by omega
  have hq1:q<h1.n:=by omega
  have hG1:Y.G a h1:=Y.stay hG (by omega) fun p hp=>g1 p (Y.low hG hp)
  have hK1:Kp (Y.own a) (Y.own a) h h1:=⟨by omega,fun p hp _=>g1 p hp,fun _ q=>.inl q⟩
  have lk:load Tryd.prog h1 3 (.ptr r 0 0)=some (.int .i64 d.kind):=y4 g1r (by kernel_rfl)
  have ly:load Tryd.prog h1 28 (.ptr q 0 0)=some (.func (.yield l) [] []):=y4 g1q (by kernel_rfl)
  have ld:load Tryd.prog h1 26 (.ptr r 0 0)=some (encD d):=y4 g1r (by kernel_rfl)
  have lc:load Tryd.prog h1 24 (.ptr r 0 3)=some (.osl 4 (esD d)):=y4 g1r (by kernel_rfl)
  refine Wc.whole (b:=(base 69 27)) [0,1,2] [(0,(.func (.yield (l)) [] [])),(1,(.ptr (r) 0 0)),(2,(.ptr q 0 0))] h1 [] (by subst hh1;subst hq;kernel_rfl) .nil ?_
  refine Wc.seq (Wc.seq (Wc.enter (Wl.bn0 0 1 [(0,(.func (.yield (l)) [] [])),(1,(.ptr (r) 0 0)),(2,(.ptr (q) 0 0)),(6,(.ptr (r) 0 0))] h1 ?_)))
  refine Wl.l 1 [(7,(.int .i64 (d.kind)))] (@lk) ?_
  refine Wl.b0 2 3 [(8,(.bool (decide (d.kind<5))))] ?_
  refine Wl.dn 3 ?_
  refine Wc.cq (p:=d.kind<5) (fun c1=>?_) (fun c1=>?_)
  ·refine Wc.seq (Wc.enter (Wl.l 0 [(9,(.func (.yield (l)) [] []))] (@ly) ?_))
   refine Wl.l 1 [(10,(.agg [(.int .i64 (d.kind)),(.str (d.text)),(.int .i64 (d.n)),(.osl 4 (esD d))]))] (@ld) ?_
   refine Wl.yieldX (b:=base 69 27) (l:=l) (args:=[encD d]) (h1:=h1) (d:=some 11) 2 (by kernel_rfl) ((hY hG1 c1 hB).mono ?_)
   rintro v h2 ⟨a',t1,t2,t3,t4⟩
   refine qg4.mk [] [] (by kernel_rfl) ?_
   refine Wl.dn 3 (Wc.ret ?_)
   refine retX.mk (.tup []) ⟨rfl,rfl⟩ (by kernel_rfl) ?_
   refine ⟨rfl,v,a',?_,hK1.trans t2,t3,t4⟩
   rw [qh1,if_pos c1]
   cases v with
   | true=>exact .cons t1 (.nil _)
   | false=>exact .stop t1
  refine Wc.skip (Wc.seq (Wc.enter (Wl.b0 0 1 [(12,(.ptr (r) 0 3))] ?_)))
  refine Wl.l 1 [(13,(.osl 4 (esD d)))] (@lc) ?_
  refine Wl.b0 2 4 [(14,(.int .i64 ((List.length (esD d):Int)))),(15,(.int .i64 0))] ?_
  refine Wl.dn 4 (Wc.block ?_)
  have hlen:(esD d).length=d.kids.length:=qp2 d
  rw [hlen]
  have hszl:=qc3 d
  refine Wc.loopV (α:=Nat×A×Heap×List Nat) (fun s=>(ja9 s.2.2.2).on [(2,.ptr q 0 0),(13,.osl 4 (esD d)),(14,.int .i64 (d.kids.length:Int)),(15,.int .i64 (s.1:Int))]) (fun s=>s.2.2.1) (xv8 Y a h1 q l d) (fun s=>d.kids.length-s.1) (0,a,h1,[]) (Vw.le (Le.on [2,13,14,15] (by kernel_rfl))) ⟨Nat.zero_le _,.nil _,.refl _ _,hG1,by simp,fun _ hm=>by simp at hm,List.nodup_nil,g1q⟩ ?_
  rintro ⟨i,a1,h2,ms⟩ ⟨i1,i2,i3,i4,i5,i6,i7,i8⟩
  have i1:i≤d.kids.length:=i1
  have i8:h2.get q=.row 0 28 1 0 (some 1) [.func (.yield l) [] []]:=i8
  simp only
  have ldk:=fun c2:i<d.kids.length=>ldKid (h:=h2) d i c2
  refine Wc.seq (Wc.wn0 [(2,(.ptr (q) 0 0)),(13,(.osl 4 (esD d))),(14,(.int .i64 ((List.length d.kids:Int)))),(15,(.int .i64 (i:Int))),(16,(.bool (decide ((i:Int)<(List.length d.kids:Int)))))] h2 ?_)
  refine Wc.seq ?_
  refine Wc.cq (p:=(i:Int)<(List.length d.kids:Int)) (fun c2=>?_) (fun c2=>?_)
  ·refine Wc.skip (Wc.seq (Wc.block (Wc.seq (Wc.enter (Wl.bs 0 1 [(17,(.gptr 4 (esD d) (i*4)))] [((0≤(i:Int))∧((i:Int)<(List.length (esD d):Int)))] (.cons (by omega) .nil) ?_)))))
   refine Wl.l 1 [(18,(.agg [(.int .i64 ((List.getD d.kids i dc0).kind)),(.str ((List.getD d.kids i dc0).text)),(.int .i64 ((List.getD d.kids i dc0).n)),(.osl 4 (esD (List.getD d.kids i dc0)))]))] (@Go.AM.ldKid (h2) (d) (i) (by omega)) ?_
   refine Wl.bn0 2 3 [(4,(.ptr (h2.n) 0 0))] (newRow h2 26 4 0 (some 1) [V.agg [V.int .i64 0,V.str [],V.int .i64 0,V.nils]]) ?_
   obtain ⟨k,hk⟩:∃ k,k=List.getD d.kids i dc0:=⟨_,rfl⟩
   obtain ⟨u,hu⟩:∃ u,u=h2.n:=⟨_,rfl⟩
   rw [← hk,← hu]
   have hst:=q27 (P:=Tryd.prog) (t:=26) (off:=0) (v:=encD k) (o:=.row 0 26 4 0 (some 1) [V.agg [V.int IntKind.i64 0,V.str [],V.int IntKind.i64 0,V.nils]]) (o':=.row 0 26 4 0 (some 1) [encD k]) (h:=newRow h2 26 4 0 (some 1) [V.agg [V.int IntKind.i64 0,V.str [],V.int IntKind.i64 0,V.nils]]) (r:=u) (ver:=0) (by rw [q34,if_pos hu.symm]) (by kernel_rfl)
   obtain ⟨h3,hh3⟩:∃ h3,h3=(newRow h2 26 4 0 (some 1) [V.agg [V.int IntKind.i64 0,V.str [],V.int IntKind.i64 0,V.nils]]).set u (.row 0 26 4 0 (some 1) [encD k]):=⟨_,rfl⟩
   rw [← hh3] at hst
   have n3:h3.n=h2.n+1:=by rw [hh3,Heap.n_set,qh5]
   have g3:∀ p,p<h2.n→h3.get p=h2.get p:=fun p hp=>by rw [hh3,Heap.get_set,if_neg (by omega),q34,if_neg (by omega)]
   have g3u:h3.get u=.row 0 26 4 0 (some 1) [encD k]:=by rw [hh3,Heap.get_set,if_pos rfl]
   refine Wl.storeE (b:=({ base 69 27 with marks:=ms })) (t:=26) (a:=.ptr u 0 0) (v:=encD k) (d:=none) 3 [2,4,13,14,15] [(2,(.ptr (q) 0 0)),(4,(.ptr u 0 0)),(13,(.osl 4 (esD d))),(14,(.int .i64 ((List.length d.kids:Int)))),(15,(.int .i64 (i:Int)))] (by kernel_rfl) hst (by kernel_rfl) ?_
   have lu:load Tryd.prog h3 26 (.ptr u 0 0)=some (encD k):=y4 g3u (by kernel_rfl)
   refine Wl.dn 4 (Wc.seq (Wc.enter (Wl.l 0 [(2,(.ptr (q) 0 0)),(4,(.ptr (u) 0 0)),(13,(.osl 4 (esD d))),(14,(.int .i64 ((List.length d.kids:Int)))),(15,(.int .i64 (i:Int))),(19,(.agg [(.int .i64 (k.kind)),(.str (k.text)),(.int .i64 (k.n)),(.osl 4 (esD k))]))] (@lu) ?_)))
   refine Wl.s 1 [(20,(.func (.func 69) [] [(.ptr (h3.n) 0 0)]))] (@Go.AM.cLeaves (h3) (k)) ?_
   refine Wl.dn 2 (Wc.block ?_)
   obtain ⟨h4,hh4⟩:∃ h4,h4=newRow h3 26 4 0 (some 1) [encD k]:=⟨_,rfl⟩
   rw [← hh4]
   obtain ⟨w,hw⟩:∃ w,w=h3.n:=⟨_,rfl⟩
   rw [← hw]
   have n4:h4.n=h2.n+2:=by rw [hh4,qh5];omega
   have g4:∀ p,p<h2.n→h4.get p=h2.get p:=fun p hp=>by rw [hh4,q34,if_neg (by omega),g3 p hp]
   have g4w:h4.get w=.row 0 26 4 0 (some 1) [encD k]:=by rw [hh4,q34,if_pos hw.symm]
   refine Wc.rangeAs (f:=.tmp 20) (params:=#[21]) (b:=({ base 69 27 with marks:=ms })) (q:=69) (args:=[(.func (.yield (h4.n+1)) [] []),.ptr w 0 0]) (rAs Tryd.prog 69 0) (rBd Tryd.prog 69 0) (by kernel_rfl) rfl rfl (by kernel_rfl) (fun tm hT=>?_)
   obtain ⟨l2,hl2⟩:∃ l2,l2=h4.n+1:=⟨_,rfl⟩
   rw [← hl2]
   obtain ⟨h6,hh6⟩:∃ h6,h6=(h4.new .defs).new (.loop .ready none 69 27 tm [21] (rAs Tryd.prog 69 0) (rBd Tryd.prog 69 0) h4.n):=⟨_,rfl⟩
   have i3:Kp (Y.own a) (Y.own a1) h1 h2:=i3
   have i6:∀ m,m∈ms→h1.n≤m∧m<h2.n∧h2.get m=.defs∧¬ Y.own a1 m:=i6
   have i2:RunY Y.T a (q84 d.kids i) true a1:=i2
   have i4:Y.G a1 h2:=i4
   have i5:Y.wt a1≤Y.wt a+sumK d.kids i:=i5
   have hi:i<d.kids.length:=by omega
   have hsk:=xi5 d.kids hi
   have hsl:=x76 d (i:=i+1) hi
   have hkz:=qg0 d hi
   rw [← hk] at hsk hkz
   have n12:=i3.1
   have n6:h6.n=h4.n+2:=by rw [hh6,Heap.n_new,Heap.n_new]
   have g6:∀ p,p<h4.n→h6.get p=h4.get p:=fun p hp=>by rw [hh6,Heap.get_new,if_neg (by rw [Heap.n_new];omega),Heap.get_new,if_neg (by omega)]
   have g6d:h6.get h4.n=.defs:=by rw [hh6,Heap.get_new,if_neg (by rw [Heap.n_new];omega),Heap.get_new,if_pos rfl]
   have g6l:h6.get l2=.loop .ready none 69 27 tm [21] (rAs Tryd.prog 69 0) (rBd Tryd.prog 69 0) h4.n:=by rw [hh6,Heap.get_new,if_pos (by rw [Heap.n_new,hl2])]
   have g62:∀ p,p<h2.n→h6.get p=h2.get p:=fun p hp=>by rw [g6 p (by omega),g4 p hp]
   have hlo:∀ p,Y.own a1 p→p<h2.n:=fun p hp=>Y.low i4 hp
   have hq1':¬ Y.own a1 q:=fun e=>(i3.2.2 q e).elim hqo (by omega)
   have hG6:(x07 Y l l2 q tm h4.n).G a1 h6:=⟨Y.stay i4 (by omega) fun p hp=>g62 p (hlo p hp),⟨by omega,by omega,fun e=>by have:=hlo _ e;omega,hq1',by omega⟩,g6l,by rw [g62 q (by omega)];exact i8⟩
   have hcx:=IH (d:=k) (by omega) (x07 Y l l2 q tm h4.n) (j19 (v4:=.ptr u 0 0) (v13:=.osl 4 (esD d)) (v14:=.int .i64 (d.kids.length:Int)) (v15:=.int .i64 (i:Int)) (v20:=.func (.func 69) [] [.ptr w 0 0]) hY hT.keep) (a:=a1) (h:=h6) (r:=w) hG6 (by rw [g6 w (by omega)];exact g4w) (fun e=>by
    rcases e with e | e | e
    ·have:=hlo _ e;omega
    ·omega
    omega) (by omega) (by show Y.wt a1+szD k≤B;omega)
   rw [hh6] at hcx
   refine hcx.mono ?_
   rw [← hh6]
   rintro v h7 ⟨rfl,b,a2,r1,r2,r3,r4⟩
   have r4:Y.wt a2≤Y.wt a1+szD k:=r4
   have n7:h6.n≤h7.n:=r2.1
   have k7:∀ p,p<h2.n→¬ Y.own a1 p→p≠q→h7.get p=h2.get p:=fun p hp ho hpq=>by
    rw [r2.2.1 p (by omega) (fun e=>?_),g62 p hp]
    rcases e with e | e | e
    ·exact ho e
    ·omega
    exact hpq e
   have o7:∀ p,Y.own a2 p→Y.own a1 p∨h6.n≤p:=fun p hp=>by
    rcases r2.2.2 p (.inl hp) with (e | e | e) | e
    ·exact .inl e
    ·subst e
     exfalso
     cases b with
     | true=>exact r3.2.1.2.2.1 hp
     | false=>exact r3.2.1.2.2.1 hp
    ·subst e
     exfalso
     cases b with
     | true=>exact r3.2.1.2.2.2.1 hp
     | false=>exact r3.2.1.2.2.2.1 hp
    exact .inr e
   have d7:h7.get h4.n=.defs:=by
    rw [r2.2.1 h4.n (by omega) (fun e=>?_)]
    ·exact g6d
    rcases e with e | e | e
    ·have:=hlo _ e;omega
    ·omega
    omega
   have hl2':¬ Y.own a2 l2:=fun e=>(o7 _ e).elim (fun e=>by have:=hlo _ e;omega) (fun e=>by omega)
   have q7:h7.get q=.row 0 28 1 0 (some 1) [.func (.yield l) [] []]:=by
    cases b with
    | true=>exact r3.2.2.2
    | false=>exact r3.2.2.2
   have kp7:∀ o,Kp (Y.own a) (Y.own a2) h1 (h7.set l2 o):=fun o=>by
    refine ⟨by rw [Heap.n_set];omega,fun p hp ho=>?_,fun p hp=>?_⟩
    ·have ho1:¬ Y.own a1 p:=fun e=>(i3.2.2 p e).elim ho (by omega)
     rw [Heap.get_set,if_neg (by omega)]
     by_cases hpq:p=q
     ·subst hpq;rw [q7,g1q]
     rw [k7 p (by omega) ho1 hpq,i3.2.1 p hp ho]
    rcases o7 p hp with e | e
    ·exact i3.2.2 p e
    exact .inr (by omega)
   have mk7:∀ m,m∈h4.n::ms→h1.n≤m∧m<h7.n∧(∀ o,(h7.set l2 o).get m=.defs)∧¬ Y.own a2 m:=fun m hm=>by
    rcases List.mem_cons.1 hm with e | e
    ·subst e
     refine ⟨by omega,by omega,fun o=>by rw [Heap.get_set,if_neg (by omega)];exact d7,fun e=>?_⟩
     rcases o7 _ e with e | e
     ·have:=hlo _ e;omega
     omega
    obtain ⟨m1,m2,m3,m4⟩:=i6 m e
    refine ⟨m1,by omega,fun o=>by rw [Heap.get_set,if_neg (by omega),k7 m m2 m4 (by omega)];exact m3,fun e=>?_⟩
    rcases o7 _ e with e | e
    ·exact m4 e
    omega
   have nd7:(h4.n::ms).Nodup:=List.nodup_cons.2 ⟨fun e=>by have:=(i6 _ e).2.1;omega,i7⟩
   have own7:∀ o p,Y.own a2 p→(h7.set l2 o).get p=h7.get p:=fun o p hp=>by rw [Heap.get_set,if_neg (fun e=>hl2' (by rw [e];exact hp))]
   have rn7:RunY Y.T a (q84 d.kids (i+1)) b a2:=by rw [zx2 d.kids hi,← hk];exact i2.app r1
   cases b with
   | true =>
    obtain ⟨e1,e2,e3,e4⟩:=r3
    refine rEnd.mk .ready tm e3 (by simp) ?_
    have hn8:∀ o,(h7.set l2 o).get q=.row 0 28 1 0 (some 1) [.func (.yield l) [] []]:=fun o=>by rw [Heap.get_set,if_neg (by omega)];exact q7
    have hI:∀ o,xv8 Y a h1 q l d (i+1,a2,h7.set l2 o,h4.n::ms):=fun o=>⟨hi,rn7,kp7 o,Y.stay e1 (by rw [Heap.n_set];exact Nat.le_refl _) (own7 o),by show Y.wt a2≤_;rw [hsk];omega,fun m hm=>⟨(mk7 m hm).1,(mk7 m hm).2.1,(mk7 m hm).2.2.1 o,(mk7 m hm).2.2.2⟩,nd7,hn8 o⟩
    obtain ⟨h8,hh8⟩:∃ h8,h8=h7.set l2 (.loop .exhausted none 69 27 tm [21] (rAs Tryd.prog 69 0) (rBd Tryd.prog 69 0) h4.n):=⟨_,rfl⟩
    have hI8:=hI (.loop .exhausted none 69 27 tm [21] (rAs Tryd.prog 69 0) (rBd Tryd.prog 69 0) h4.n)
    rw [← hh8] at hI8
    change Wc Tryd.prog EU _ _ (h7.set l2 (.loop .exhausted none 69 27 tm [21] (rAs Tryd.prog 69 0) (rBd Tryd.prog 69 0) h4.n)) _ _ _
    rw [← hh8]
    refine Wc.wn [(2,(.ptr (q) 0 0)),(4,(.ptr (u) 0 0)),(13,(.osl 4 (esD d))),(14,(.int .i64 ((List.length d.kids:Int)))),(15,(.int .i64 ((i:Int)+1))),(20,(.func (.func 69) [] [(.ptr (w) 0 0)]))] h8 [(i64r ((i:Int)+1))] (.cons (by omega) .nil) ?_
    have e15:(i:Int)+1=((i+1:Nat):Int):=by omega
    rw [e15]
    exact ⟨(i+1,a2,h8,h4.n::ms),Vw.le (Le.on [2,13,14,15] (by kernel_rfl)),hI8,by show d.kids.length-(i+1)<d.kids.length-i;omega⟩
   | false =>
    obtain ⟨e1,e2,e3,e4⟩:=r3
    refine rEnd.mkC .done .ret tm e3 (by simp) ?_
    change Wc Tryd.prog EU .ret _ (h7.set l2 (.loop .exhausted (some .ret) 69 27 tm [21] (rAs Tryd.prog 69 0) (rBd Tryd.prog 69 0) h4.n)) _ _ _
    obtain ⟨h8,hh8⟩:∃ h8,h8=h7.set l2 (.loop .exhausted (some .ret) 69 27 tm [21] (rAs Tryd.prog 69 0) (rBd Tryd.prog 69 0) h4.n):=⟨_,rfl⟩
    rw [← hh8]
    obtain ⟨h9,k1,k2,k3⟩:=qd9 (h:=h8) (fun m hm=>by rw [hh8];exact (mk7 m hm).2.2.1 _) nd7
    refine Wc.ret (z8.ret ?_)
    refine z8.ret ?_
    refine z8.ret ?_
    have hk8:Kp (Y.own a) (Y.own a2) h h8:=by rw [hh8];exact hK1.trans (kp7 _)
    have mk8:∀ p,p<h1.n∨Y.own a2 p→h9.get p=h8.get p:=fun p hp=>k3 p fun hm=>by
     obtain ⟨m1,m2,m3,m4⟩:=mk7 p hm
     rcases hp with e | e
     ·omega
     exact m4 e
    refine retX.marks h9 (.tup []) rfl k1 (by kernel_rfl) ⟨rfl,false,a2,?_,?_,?_,?_⟩
    ·rw [qh1,if_neg c1]
     have e:(d.kids.map q56).flatten=q84 d.kids (i+1)++((d.kids.drop (i+1)).map q56).flatten:=by
      unfold q84
      rw [← List.flatten_append,← List.map_append,List.take_append_drop]
     rw [e];exact rn7.left _
    ·refine ⟨by have:=hk8.1;omega,fun p hp ho=>?_,hk8.2.2⟩
     rw [mk8 p (.inl (by omega)),hk8.2.1 p hp ho]
    ·refine Y.stop e1 (by rw [k2,hh8,Heap.n_set];exact Nat.le_refl _) fun p hp=>?_
     rw [mk8 p (.inr hp),hh8,own7 _ p hp]
    omega
  refine Wc.exit (z8.here ?_)
  have hi:i=d.kids.length:=by omega
  obtain ⟨h3,k1,k2,k3⟩:=qd9 (h:=h2) (fun m hm=>(i6 m hm).2.2.1) i7
  have i3:Kp (Y.own a) (Y.own a1) h1 h2:=i3
  have i6:∀ m,m∈ms→h1.n≤m∧m<h2.n∧h2.get m=.defs∧¬ Y.own a1 m:=i6
  have i2:RunY Y.T a (q84 d.kids i) true a1:=i2
  have i4:Y.G a1 h2:=i4
  have i5:Y.wt a1≤Y.wt a+sumK d.kids i:=i5
  have hne:∀ p,p<h1.n∨Y.own a1 p→h3.get p=h2.get p:=fun p hp=>k3 p fun hm=>by
   obtain ⟨m1,m2,m3,m4⟩:=i6 p hm
   rcases hp with e | e
   ·omega
   exact m4 e
  refine retX.marks h3 (.tup []) rfl k1 (by kernel_rfl) ⟨rfl,true,a1,?_,?_,?_,?_⟩
  ·rw [qh1,if_neg c1]
   have e:q84 d.kids i=(d.kids.map q56).flatten:=by rw [hi];unfold q84;rw [List.take_length]
   rw [← e];exact i2
  ·have hk:=hK1.trans i3
   refine ⟨by have:=hk.1;omega,fun p hp ho=>?_,hk.2.2⟩
   rw [hne p (.inl (by omega)),hk.2.1 p hp ho]
  ·exact Y.stay i4 (by omega) fun p hp=>hne p (.inr hp)
  have:=x76 d i1;omega
end Go.AM
namespace Go.AM
open Go.Proofs
set_option maxRecDepth 100000
set_option maxHeartbeats 4000000
def bldO (a b:V):Obj:=.row 0 49 2 0 (some 1) [.agg [a,b]]
theorem j82 {h:Heap} {r:Nat} {b:V} (hg:h.get r=bldO .nilp b):Cs Tryd.prog EU 62 [.ptr r 0 0] h (.tup []) (h.set r (bldO (.ptr r 0 0) b)):=by
 refine Cs.body (fn:=Tryd.f62) Tryd.func62 rfl (by kernel_rfl) ?_
 have l0:load Tryd.prog h 47 (.ptr r 0 0)=some .nilp:=y4 hg (by kernel_rfl)
 refine Wc.seq (Wc.enter (Wl.bn0 0 3 [(0,(.ptr (r) 0 0)),(4,(.ptr (r) 0 0))] h ?_))
 refine Wl.l 3 [(5,.nilp)] (@l0) ?_
 refine Wl.b0 4 5 [(6,(.bool true))] ?_
 refine Wl.dn 5 (Wc.ct (Wc.enter (Wl.b0 0 2 [(7,(.ptr (r) 0 0)),(8,(.ptr (r) 0 0))] ?_)))
 refine Wl.opE (b:=base 62 20) 2 (j8 h (convert Tryd.prog 47 112 h (.ptr r 0 0))) (.ptr r 0 0) [7,9] [(7,.ptr r 0 0),(9,.ptr r 0 0)] (by kernel_rfl) (by kernel_rfl) (by rw [za3 hg (by kernel_rfl)];rfl) (by kernel_rfl) ?_
 refine Wl.s 3 [(7,(.ptr (r) 0 0)),(10,(.ptr (r) 0 0))] (@Go.AM.c74 (h) (r) (0) (0)) ?_
 refine Wl.opE (b:=base 62 20) 4 (j8 h (convert Tryd.prog 112 47 h (.ptr r 0 0))) (.ptr r 0 0) [7,11] [(7,.ptr r 0 0),(11,.ptr r 0 0)] (by kernel_rfl) (by kernel_rfl) (by rw [za3 hg (by kernel_rfl)];rfl) (by kernel_rfl) ?_
 refine Wl.bn0 5 7 [(11,(.ptr (r) 0 0)),(13,(.ptr (r) 0 0))] h ?_
 refine Wl.storeE (b:=base 62 20) (t:=47) (a:=.ptr r 0 0) (v:=.ptr r 0 0) (d:=none) 7 [] [] (by kernel_rfl) (q27 hg (o':=bldO (.ptr r 0 0) b) (by kernel_rfl)) (by kernel_rfl) ?_
 refine Wl.dn 8 ?_
 refine retX.mk (.tup []) ⟨rfl,rfl⟩ (by kernel_rfl) ?_
 exact ⟨by kernel_rfl,by kernel_rfl⟩
theorem j63 {h:Heap} {r:Nat} {b:V} (hg:h.get r=bldO (.ptr r 0 0) b):Cs Tryd.prog EU 62 [.ptr r 0 0] h (.tup []) h:=by
 refine Cs.body (fn:=Tryd.f62) Tryd.func62 rfl (by kernel_rfl) ?_
 have l0:load Tryd.prog h 47 (.ptr r 0 0)=some (.ptr r 0 0):=y4 hg (by kernel_rfl)
 refine Wc.seq (Wc.enter (Wl.bn0 0 3 [(0,(.ptr (r) 0 0)),(4,(.ptr (r) 0 0))] h ?_))
 refine Wl.l 3 [(5,(.ptr (r) 0 0))] (@l0) ?_
 refine Wl.b0 4 5 [(6,(.bool false))] ?_
 refine Wl.dn 5 (Wc.cf (Wc.seq (Wc.enter (Wl.b0 0 3 [(16,(.ptr (r) 0 0))] ?_))))
 refine Wl.l 3 [(17,(.ptr (r) 0 0))] (@l0) ?_
 refine Wl.b0 4 5 [(18,(.ptr (r) 0 0))] ?_
 refine Wl.opE (b:=base 62 20) 5 (j8 h (binOp Tryd.prog h 47 false .neq (.ptr r 0 0) (.ptr r 0 0))) (.bool false) [19] [(19,.bool false)] (by kernel_rfl) (by kernel_rfl) (by rw [xu1 hg (by kernel_rfl)];rfl) (by kernel_rfl) ?_
 refine Wl.dn 6 (Wc.cf (Wc.skip ?_))
 refine retX.mk (.tup []) ⟨rfl,rfl⟩ (by kernel_rfl) ?_
 exact ⟨by kernel_rfl,by kernel_rfl⟩
structure Bd (h:Heap) (r rb:Nat) (s:List UInt8):Prop where
 lt:r<h.n
 row:∃ a b,h.get r=bldO a b∧(a=.nilp∨a=.ptr r 0 0)∧((s=[]∧b=.nils)∨(s≠[]∧rb≠r∧rb<h.n∧∃ ver,b=.sl rb ver 0 s.length none∧h.get rb=.row ver 5 1 0 none (s.map bV)))
def j76 (r rb:Nat) (s:List UInt8) (p:Nat):Prop:=p=r∨(s≠[]∧p=rb)
theorem zt5 {h:Heap} {r:Nat} {a b:V} (hg:h.get r=bldO a b) (ha:a=.nilp∨a=.ptr r 0 0):∃ h',Cs Tryd.prog EU 62 [.ptr r 0 0] h (.tup []) h'∧h'.n=h.n∧(∀ p,p≠r→h'.get p=h.get p)∧h'.get r=bldO (.ptr r 0 0) b:=by
 rcases ha with rfl | rfl
 ·exact ⟨_,j82 hg,Heap.n_set _ _ _,fun p hp=>by rw [Heap.get_set,if_neg (fun e=>hp e.symm)],by rw [Heap.get_set,if_pos rfl]⟩
 ·exact ⟨_,j63 hg,rfl,fun _ _=>rfl,hg⟩
theorem xw7 {h:Heap} {r rb:Nat} {s t:List UInt8} {b:V} (hr:h.get r=bldO (.ptr r 0 0) b) (hrn:r<h.n) (hb:(s=[]∧b=.nils)∨(s≠[]∧rb≠r∧rb<h.n∧∃ ver,b=.sl rb ver 0 s.length none∧h.get rb=.row ver 5 1 0 none (s.map bV))) {u:TypeId} {y:V} (hu:q24 Tryd.prog u=true) (hn:newS Tryd.prog h 1 y=some (t.map bV)) (ht:t≠[]) (hl:s.length+t.length≤1000000000) :
  ∃ v h1,builtin Tryd.prog .append [22,u] h [b,y]=.val v h1∧h1.get r=bldO (.ptr r 0 0) b∧h.n≤h1.n∧(∀ p,p<h.n→(s≠[]→p≠rb)→h1.get p=h.get p)∧∃ rb',(s≠[]→rb'=rb)∧(s=[]→h.n≤rb')∧∃ ver,v=.sl rb' ver 0 (s++t).length none∧h1.get rb'=.row ver 5 1 0 none ((s++t).map bV)∧rb'≠r∧rb'<h1.n:=by
 have e22:j3 Tryd.prog 22=some 5:=by kernel_rfl
 have es:size Tryd.prog 5=1:=by kernel_rfl
 have eb:Tryd.prog.bytesOf 5=1:=by kernel_rfl
 have ez:(Nat.beq (size Tryd.prog 5) 0||!(qa2 Tryd.prog 5))=false:=by kernel_rfl
 have hne:t.map bV≠[]:=by simpa using ht
 rcases hb with ⟨rfl,rfl⟩ | ⟨hs,h1,h2,ver,rfl,h3⟩
 ·refine ⟨_,_,xf2 e22 hu (by rw [es];exact hn) ez hne (by simp at hl ⊢;omega) (by rw [eb];simp at hl ⊢;omega),?_,by rw [qh5];omega,fun p hp _=>by rw [q34,if_neg (by omega)],h.n,fun q=>absurd rfl q,fun _=>Nat.le_refl _,0,by simp,by rw [q34,if_pos rfl,es];rfl,by omega,by rw [qh5];omega⟩
  rw [q34,if_neg (by omega),hr]
 ·refine ⟨_,_,xc8 (pub:=0) (es:=s.map bV) e22 hu (by rw [es];exact hn) ez (by rw [h3,es]) hne (by simp) (Nat.zero_le _) (by simp;omega) (by rw [eb];simp;omega),?_,by rw [Heap.n_set];exact Nat.le_refl _,fun p _ hp=>by rw [Heap.get_set,if_neg (fun e=>hp hs e.symm)],rb,fun _=>rfl,fun q=>absurd q hs,ver+1,by simp,by rw [Heap.get_set,if_pos rfl,es];simp,h1,by rw [Heap.n_set];exact h2⟩
  rw [Heap.get_set,if_neg h1,hr]
def qy9 (h h':Heap) (r rb rb':Nat) (s s':List UInt8):Prop:=Bd h' r rb' s'∧h.n≤h'.n∧(∀ p,p<h.n→p≠r→(s≠[]→p≠rb)→h'.get p=h.get p)∧(s≠[]→rb'=rb)∧(s=[]→s'≠[]→h.n≤rb')
theorem xw2 {h h1 h2:Heap} {r rb rb' ver:Nat} {s s':List UInt8} (hs':s'≠[]) (hrn:r<h.n) (n1:h1.n=h.n) (g1:∀ p,p≠r→h1.get p=h.get p) (n2:h1.n≤h2.n) (g2:∀ p,p<h1.n→(s≠[]→p≠rb)→h2.get p=h1.get p) (e1:s≠[]→rb'=rb) (e2:s=[]→h1.n≤rb') (gr:h2.get rb'=.row ver 5 1 0 none (s'.map bV)) (hr':rb'≠r) (hl:rb'<h2.n) :
  qy9 h (h2.set r (bldO (.ptr r 0 0) (.sl rb' ver 0 s'.length none))) r rb rb' s s' :=
 ⟨⟨by rw [Heap.n_set];omega,_,_,by rw [Heap.get_set,if_pos rfl],.inr rfl,.inr ⟨hs',hr',by rw [Heap.n_set];exact hl,ver,rfl,by rw [Heap.get_set,if_neg (fun e=>hr' e.symm)];exact gr⟩⟩,by rw [Heap.n_set];omega,fun p hp hpr hpb=>by rw [Heap.get_set,if_neg (fun e=>hpr e.symm),g2 p (by omega) hpb,g1 p hpr],e1,fun q _=>by have:=e2 q;omega⟩
theorem j77 {h:Heap} {r rb:Nat} {s:List UInt8} (hb:Bd h r rb s) (hl:s.length≤900000000):∃ h' rb',Cs Tryd.prog EU 57 [.ptr r 0 0,.int .u8 32] h .nili h'∧qy9 h h' r rb rb' s (s++[32]):=by
 obtain ⟨hrn,a,b,hr,ha,hb⟩:=hb
 obtain ⟨h1,c1,n1,g1,gr1⟩:=zt5 hr ha
 have hb1:(s=[]∧b=.nils)∨(s≠[]∧rb≠r∧rb<h1.n∧∃ ver,b=.sl rb ver 0 s.length none∧h1.get rb=.row ver 5 1 0 none (s.map bV)):=by
  rcases hb with q | ⟨q1,q2,q3,ver,q4,q5⟩
  ·exact .inl q
  exact .inr ⟨q1,q2,by omega,ver,q4,by rw [g1 rb q2];exact q5⟩
 obtain ⟨v,h2,ap,gr2,n2,g2,rb',e1,e2,ver,rfl,gb,hr',hl'⟩:=xw7 (u:=22) (y:=.gsl 1 [.int .u8 32] (some 1)) (t:=[32]) gr1 (by omega) hb1 (by kernel_rfl) (by kernel_rfl) (by simp) (by simp;omega)
 refine ⟨_,rb',?_,xw2 (by simp) hrn n1 g1 n2 g2 e1 e2 gb hr' hl'⟩
 refine Cs.body (fn:=Tryd.f57) Tryd.func57 rfl (by kernel_rfl) ?_
 rcases hb with ⟨_,rfl⟩ | ⟨_,_,_,ver0,rfl,_⟩
 ·have lb:load Tryd.prog h1 22 (.ptr r 0 1)=some .nils:=y4 gr1 (by kernel_rfl)
  refine Wc.seq (Wc.wn0 [(0,(.ptr (r) 0 0)),(1,(.int .u8 32)),(4,.nili)] h ?_)
  refine Wc.seq (Wc.enter (Wl.b0 0 1 [(5,(.ptr (r) 0 0))] ?_))
  refine Wl.s 1 [] (@c1) ?_
  refine Wl.dn 2 (Wc.seq (Wc.enter (Wl.b0 0 4 [(7,(.ptr r 0 0)),(10,(.ptr r 0 1))] ?_)))
  refine Wl.l 4 [(11,.nils)] lb ?_
  refine Wl.b0 5 7 [(13,(.gsl 1 [.int .u8 32] (some 1)))] ?_
  let v1:V:=(.sl rb' ver 0 (s++[32]).length none)
  refine Wl.opE (b:=base 57 17) 7 (builtin Tryd.prog .append [22,22] h1 [.nils,.gsl 1 [.int .u8 32] (some 1)]) v1 [4,7,14] [(4,.nili),(7,.ptr r 0 0),(14,.sl rb' ver 0 (s++[32]).length none)] (by kernel_rfl) (by kernel_rfl) ap (by kernel_rfl) ?_
  refine Wl.bn0 8 10 [(4,.nili),(14,v1),(16,(.ptr r 0 1))] h2 ?_
  refine Wl.storeE (b:=base 57 17) (t:=22) (a:=.ptr r 0 1) (v:=.sl rb' ver 0 (s++[32]).length none) (d:=none) 10 [4] [(4,.nili)] (by kernel_rfl) (q27 gr2 (o':=bldO (.ptr r 0 0) v1) (by kernel_rfl)) (by kernel_rfl) ?_
  refine Wl.dn 11 (Wc.seq (Wc.wn0 [(4,.nili)] (Heap.set h2 r (bldO (V.ptr r 0 0) (V.sl rb' ver 0 (List.length (s++[32])) none))) ?_))
  refine Wc.ret ?_
  refine retX.mk .nili ⟨rfl,rfl⟩ (by kernel_rfl) ?_
  exact ⟨by kernel_rfl,by kernel_rfl⟩
 have lb:load Tryd.prog h1 22 (.ptr r 0 1)=some (.sl rb ver0 0 s.length none):=y4 gr1 (by kernel_rfl)
 refine Wc.seq (Wc.wn0 [(0,(.ptr (r) 0 0)),(1,(.int .u8 32)),(4,.nili)] h ?_)
 refine Wc.seq (Wc.enter (Wl.b0 0 1 [(5,(.ptr (r) 0 0))] ?_))
 refine Wl.s 1 [] (@c1) ?_
 refine Wl.dn 2 (Wc.seq (Wc.enter (Wl.b0 0 4 [(7,(.ptr r 0 0)),(10,(.ptr r 0 1))] ?_)))
 refine Wl.l 4 [(11,(.sl rb ver0 0 s.length none))] lb ?_
 refine Wl.b0 5 7 [(13,(.gsl 1 [.int .u8 32] (some 1)))] ?_
 let v2:V:=(.sl rb' ver 0 (s++[32]).length none)
 refine Wl.opE (b:=base 57 17) 7 (builtin Tryd.prog .append [22,22] h1 [.sl rb ver0 0 s.length none,.gsl 1 [.int .u8 32] (some 1)]) v2 [4,7,14] [(4,.nili),(7,.ptr r 0 0),(14,.sl rb' ver 0 (s++[32]).length none)] (by kernel_rfl) (by kernel_rfl) ap (by kernel_rfl) ?_
 refine Wl.bn0 8 10 [(4,.nili),(14,v2),(16,(.ptr r 0 1))] h2 ?_
 refine Wl.storeE (b:=base 57 17) (t:=22) (a:=.ptr r 0 1) (v:=.sl rb' ver 0 (s++[32]).length none) (d:=none) 10 [4] [(4,.nili)] (by kernel_rfl) (q27 gr2 (o':=bldO (.ptr r 0 0) v2) (by kernel_rfl)) (by kernel_rfl) ?_
 refine Wl.dn 11 (Wc.seq (Wc.wn0 [(4,.nili)] (Heap.set h2 r (bldO (V.ptr r 0 0) (V.sl rb' ver 0 (List.length (s++[32])) none))) ?_))
 refine Wc.ret ?_
 refine retX.mk .nili ⟨rfl,rfl⟩ (by kernel_rfl) ?_
 exact ⟨by kernel_rfl,by kernel_rfl⟩
theorem jb0 {h:Heap} {r rb:Nat} {s t:List UInt8} (hb:Bd h r rb s) (ht:t≠[]) (hl:s.length+t.length≤1000000000):∃ h' rb',Cs Tryd.prog EU 50 [.ptr r 0 0,.str t] h (.tup [.int .i64 (t.length:Int),.nili]) h'∧qy9 h h' r rb rb' s (s++t):=by
 obtain ⟨hrn,a,b,hr,ha,hb⟩:=hb
 obtain ⟨h1,c1,n1,g1,gr1⟩:=zt5 hr ha
 have hb1:(s=[]∧b=.nils)∨(s≠[]∧rb≠r∧rb<h1.n∧∃ ver,b=.sl rb ver 0 s.length none∧h1.get rb=.row ver 5 1 0 none (s.map bV)):=by
  rcases hb with q | ⟨q1,q2,q3,ver,q4,q5⟩
  ·exact .inl q
  exact .inr ⟨q1,q2,by omega,ver,q4,by rw [g1 rb q2];exact q5⟩
 obtain ⟨v,h2,ap,gr2,n2,g2,rb',e1,e2,ver,rfl,gb,hr',hl'⟩:=xw7 (u:=9) (y:=.str t) (t:=t) gr1 (by omega) hb1 (by kernel_rfl) (by show some (mapB t)=_;rw [qp1];rfl) ht hl
 refine ⟨_,rb',?_,xw2 (by simp [ht]) hrn n1 g1 n2 g2 e1 e2 gb hr' hl'⟩
 refine Cs.body (fn:=Tryd.f50) Tryd.func50 rfl (by kernel_rfl) ?_
 rcases hb with ⟨_,rfl⟩ | ⟨_,_,_,ver0,rfl,_⟩
 ·have lb:load Tryd.prog h1 22 (.ptr r 0 1)=some .nils:=y4 gr1 (by kernel_rfl)
  refine Wc.seq (Wc.wn0 [(0,(.ptr (r) 0 0)),(1,(.str t)),(4,(.int .i64 0)),(5,.nili)] h ?_)
  refine Wc.seq (Wc.enter (Wl.b0 0 1 [(6,(.ptr (r) 0 0))] ?_))
  refine Wl.s 1 [] (@c1) ?_
  refine Wl.dn 2 (Wc.seq (Wc.enter (Wl.b0 0 4 [(1,(.str t)),(8,(.ptr r 0 0)),(11,(.ptr r 0 1))] ?_)))
  refine Wl.l 4 [(12,.nils)] lb ?_
  refine Wl.b0 5 6 [(13,(.str t))] ?_
  let v1:V:=(.sl rb' ver 0 (s++t).length none)
  refine Wl.opE (b:=base 50 19) 6 (builtin Tryd.prog .append [22,9] h1 [.nils,.str t]) v1 [1,4,5,8,14] [(1,.str t),(4,.int .i64 0),(5,.nili),(8,.ptr r 0 0),(14,.sl rb' ver 0 (s++t).length none)] (by kernel_rfl) (by kernel_rfl) ap (by kernel_rfl) ?_
  refine Wl.bn0 7 9 [(1,(.str t)),(4,(.int .i64 0)),(5,.nili),(14,v1),(16,(.ptr r 0 1))] h2 ?_
  refine Wl.storeE (b:=base 50 19) (t:=22) (a:=.ptr r 0 1) (v:=.sl rb' ver 0 (s++t).length none) (d:=none) 9 [1,4,5] [(1,.str t),(4,.int .i64 0),(5,.nili)] (by kernel_rfl) (q27 gr2 (o':=bldO (.ptr r 0 0) v1) (by kernel_rfl)) (by kernel_rfl) ?_
  refine Wl.dn 10 (Wc.seq (Wc.wn0 [(1,(.str t)),(4,(.int .i64 ((List.length t:Int)))),(5,.nili)] (Heap.set h2 r (bldO (V.ptr r 0 0) (V.sl rb' ver 0 (List.length (s++t)) none))) ?_))
  refine Wc.ret ?_
  refine retX.mk (.tup [(.int .i64 ((List.length t:Int))),.nili]) ⟨rfl,rfl⟩ (by kernel_rfl) ?_
  exact ⟨by kernel_rfl,by kernel_rfl⟩
 have lb:load Tryd.prog h1 22 (.ptr r 0 1)=some (.sl rb ver0 0 s.length none):=y4 gr1 (by kernel_rfl)
 refine Wc.seq (Wc.wn0 [(0,(.ptr (r) 0 0)),(1,(.str t)),(4,(.int .i64 0)),(5,.nili)] h ?_)
 refine Wc.seq (Wc.enter (Wl.b0 0 1 [(6,(.ptr (r) 0 0))] ?_))
 refine Wl.s 1 [] (@c1) ?_
 refine Wl.dn 2 (Wc.seq (Wc.enter (Wl.b0 0 4 [(1,(.str t)),(8,(.ptr r 0 0)),(11,(.ptr r 0 1))] ?_)))
 refine Wl.l 4 [(12,(.sl rb ver0 0 s.length none))] lb ?_
 refine Wl.b0 5 6 [(13,(.str t))] ?_
 let v2:V:=(.sl rb' ver 0 (s++t).length none)
 refine Wl.opE (b:=base 50 19) 6 (builtin Tryd.prog .append [22,9] h1 [.sl rb ver0 0 s.length none,.str t]) v2 [1,4,5,8,14] [(1,.str t),(4,.int .i64 0),(5,.nili),(8,.ptr r 0 0),(14,.sl rb' ver 0 (s++t).length none)] (by kernel_rfl) (by kernel_rfl) ap (by kernel_rfl) ?_
 refine Wl.bn0 7 9 [(1,(.str t)),(4,(.int .i64 0)),(5,.nili),(14,v2),(16,(.ptr r 0 1))] h2 ?_
 refine Wl.storeE (b:=base 50 19) (t:=22) (a:=.ptr r 0 1) (v:=.sl rb' ver 0 (s++t).length none) (d:=none) 9 [1,4,5] [(1,.str t),(4,.int .i64 0),(5,.nili)] (by kernel_rfl) (q27 gr2 (o':=bldO (.ptr r 0 0) v2) (by kernel_rfl)) (by kernel_rfl) ?_
 refine Wl.dn 10 (Wc.seq (Wc.wn0 [(1,(.str t)),(4,(.int .i64 ((List.length t:Int)))),(5,.nili)] (Heap.set h2 r (bldO (V.ptr r 0 0) (V.sl rb' ver 0 (List.length (s++t)) none))) ?_))
 refine Wc.ret ?_
 refine retX.mk (.tup [(.int .i64 ((List.length t:Int))),.nili]) ⟨rfl,rfl⟩ (by kernel_rfl) ?_
 exact ⟨by kernel_rfl,by kernel_rfl⟩
theorem j93 {h:Heap} {r rb:Nat} {s:List UInt8} (hb:Bd h r rb s):∃ h',Cs Tryd.prog EU 50 [.ptr r 0 0,.str []] h (.tup [.int .i64 0,.nili]) h'∧qy9 h h' r rb rb s s:=by
 obtain ⟨hrn,a,b,hr,ha,hb⟩:=hb
 obtain ⟨h1,c1,n1,g1,gr1⟩:=zt5 hr ha
 refine ⟨h1.set r (bldO (.ptr r 0 0) b),?_,⟨by rw [Heap.n_set];omega,_,b,by rw [Heap.get_set,if_pos rfl],.inr rfl,?_⟩,by rw [Heap.n_set];omega,fun p hp hpr _=>by rw [Heap.get_set,if_neg (fun e=>hpr e.symm),g1 p hpr],fun _=>rfl,fun q q'=>absurd q q'⟩
 ·refine Cs.body (fn:=Tryd.f50) Tryd.func50 rfl (by kernel_rfl) ?_
  rcases hb with ⟨_,rfl⟩ | ⟨_,_,_,ver0,rfl,_⟩
  ·have lb:load Tryd.prog h1 22 (.ptr r 0 1)=some .nils:=y4 gr1 (by kernel_rfl)
   have ap:=za9 (P:=Tryd.prog) (h:=h1) (t:=22) (u:=9) (e:=5) (x:=.nils) (by kernel_rfl) (by kernel_rfl) (by kernel_rfl) (.inl rfl)
   refine Wc.seq (Wc.wn0 [(0,(.ptr (r) 0 0)),(1,(.str [])),(4,(.int .i64 0)),(5,.nili)] h ?_)
   refine Wc.seq (Wc.enter (Wl.b0 0 1 [(6,(.ptr (r) 0 0))] ?_))
   refine Wl.s 1 [] (@c1) ?_
   refine Wl.dn 2 (Wc.seq (Wc.enter (Wl.b0 0 4 [(8,(.ptr r 0 0)),(11,(.ptr r 0 1))] ?_)))
   refine Wl.l 4 [(12,.nils)] lb ?_
   refine Wl.b0 5 6 [(13,(.str []))] ?_
   refine Wl.opE (b:=base 50 19) 6 (builtin Tryd.prog .append [22,9] h1 [.nils,.str []]) (.nils) [1,4,5,8,14] [(1,.str []),(4,.int .i64 0),(5,.nili),(8,.ptr r 0 0),(14,.nils)] (by kernel_rfl) (by kernel_rfl) ap (by kernel_rfl) ?_
   refine Wl.bn0 7 9 [(1,(.str [])),(4,(.int .i64 0)),(5,.nili),(14,.nils),(16,(.ptr r 0 1))] h1 ?_
   refine Wl.storeE (b:=base 50 19) (t:=22) (a:=.ptr r 0 1) (v:=.nils) (d:=none) 9 [1,4,5] [(1,.str []),(4,.int .i64 0),(5,.nili)] (by kernel_rfl) (q27 gr1 (o':=bldO (.ptr r 0 0) (.nils)) (by kernel_rfl)) (by kernel_rfl) ?_
   refine Wl.dn 10 (Wc.seq (Wc.wn0 [(1,(.str [])),(4,(.int .i64 0)),(5,.nili)] (Heap.set h1 r (bldO (V.ptr r 0 0) V.nils)) ?_))
   refine Wc.ret ?_
   refine retX.mk (.tup [(.int .i64 0),.nili]) ⟨rfl,rfl⟩ (by kernel_rfl) ?_
   exact ⟨by kernel_rfl,by kernel_rfl⟩
  have lb:load Tryd.prog h1 22 (.ptr r 0 1)=some (.sl rb ver0 0 s.length none):=y4 gr1 (by kernel_rfl)
  have ap:=za9 (P:=Tryd.prog) (h:=h1) (t:=22) (u:=9) (e:=5) (x:=.sl rb ver0 0 s.length none) (by kernel_rfl) (by kernel_rfl) (by kernel_rfl) (.inr ⟨_,_,_,_,_,rfl⟩)
  refine Wc.seq (Wc.wn0 [(0,(.ptr (r) 0 0)),(1,(.str [])),(4,(.int .i64 0)),(5,.nili)] h ?_)
  refine Wc.seq (Wc.enter (Wl.b0 0 1 [(6,(.ptr (r) 0 0))] ?_))
  refine Wl.s 1 [] (@c1) ?_
  refine Wl.dn 2 (Wc.seq (Wc.enter (Wl.b0 0 4 [(8,(.ptr r 0 0)),(11,(.ptr r 0 1))] ?_)))
  refine Wl.l 4 [(12,(.sl rb ver0 0 s.length none))] lb ?_
  refine Wl.b0 5 6 [(13,(.str []))] ?_
  refine Wl.opE (b:=base 50 19) 6 (builtin Tryd.prog .append [22,9] h1 [.sl rb ver0 0 s.length none,.str []]) (.sl rb ver0 0 s.length none) [1,4,5,8,14] [(1,.str []),(4,.int .i64 0),(5,.nili),(8,.ptr r 0 0),(14,.sl rb ver0 0 s.length none)] (by kernel_rfl) (by kernel_rfl) ap (by kernel_rfl) ?_
  refine Wl.bn0 7 9 [(1,(.str [])),(4,(.int .i64 0)),(5,.nili),(14,(.sl rb ver0 0 s.length none)),(16,(.ptr r 0 1))] h1 ?_
  refine Wl.storeE (b:=base 50 19) (t:=22) (a:=.ptr r 0 1) (v:=.sl rb ver0 0 s.length none) (d:=none) 9 [1,4,5] [(1,.str []),(4,.int .i64 0),(5,.nili)] (by kernel_rfl) (q27 gr1 (o':=bldO (.ptr r 0 0) (.sl rb ver0 0 s.length none)) (by kernel_rfl)) (by kernel_rfl) ?_
  refine Wl.dn 10 (Wc.seq (Wc.wn0 [(1,(.str [])),(4,(.int .i64 0)),(5,.nili)] (Heap.set h1 r (bldO (V.ptr r 0 0) (V.sl rb ver0 0 (List.length s) none))) ?_))
  refine Wc.ret ?_
  refine retX.mk (.tup [(.int .i64 0),.nili]) ⟨rfl,rfl⟩ (by kernel_rfl) ?_
  exact ⟨by kernel_rfl,by kernel_rfl⟩
 rcases hb with q | ⟨q1,q2,q3,ver,q4,q5⟩
 ·exact .inl q
 exact .inr ⟨q1,q2,by rw [Heap.n_set];omega,ver,q4,by rw [Heap.get_set,if_neg (fun e=>q2 e.symm),g1 rb q2];exact q5⟩
end Go.AM
namespace Go.AM
open Go.Proofs
set_option maxRecDepth 100000
set_option maxHeartbeats 4000000
def qj2 (x:Dc):List UInt8:=if x.kind=2 then [32] else x.text
theorem xo1 (x:Dc):(qj2 x).length≤szD x:=by
 have:=y3 x
 unfold qj2
 split
 ·have:=q07 x;simp;omega
 ·omega
def qj7 (tm:AM.T V):Yr (List UInt8×Nat) where
 own a p:=p=6∨p=1∨p=2∨j76 3 a.2 a.1 p
 G a h:=6<h.n∧h.get 6=.loop .ready none 35 20 tm [8] (rAs Tryd.prog 35 0) (rBd Tryd.prog 35 0) 5∧h.get 1=.row 0 9 1 0 (some 1) [.str []]∧h.get 2=.row 0 4 1 0 (some 1) [.bool false]∧Bd h 3 a.2 a.1
 St a h:=6<h.n∧h.get 6=.loop .done (some .ret) 35 20 tm [8] (rAs Tryd.prog 35 0) (rBd Tryd.prog 35 0) 5∧h.get 1=.row 0 9 1 0 (some 1) [.str []]∧h.get 2=.row 0 4 1 0 (some 1) [.bool false]
 T a x b a':=b=decide (x.kind≠4)∧(b=true→a'.1=a.1++qj2 x)
 wt a:=a.1.length
 low:=by
  rintro ⟨s,rb⟩ h r ⟨h1,_,_,_,hb⟩ ho
  rcases ho with e | e | e | e | ⟨e1,e2⟩
  ·omega
  ·omega
  ·omega
  ·omega
  ·obtain ⟨_,a,b,_,_,q | ⟨_,_,q,_⟩⟩:=hb
   ·exact absurd q.1 e1
   ·simp only at e2 q;omega
 stay:=by
  rintro ⟨s,rb⟩ h h' ⟨h1,h2,h3,h4,hb⟩ hn hr
  refine ⟨by omega,by rw [hr 6 (.inl rfl)];exact h2,by rw [hr 1 (.inr (.inl rfl))];exact h3,by rw [hr 2 (.inr (.inr (.inl rfl)))];exact h4,?_⟩
  obtain ⟨b1,a,b,b2,b3,b4⟩:=hb
  refine ⟨by omega,a,b,by rw [hr 3 (.inr (.inr (.inr (.inl rfl))))];exact b2,b3,?_⟩
  rcases b4 with q | ⟨q1,q2,q3,ver,q4,q5⟩
  ·exact .inl q
  ·exact .inr ⟨q1,q2,by omega,ver,q4,by rw [hr rb (.inr (.inr (.inr (.inr ⟨q1,rfl⟩))))];exact q5⟩
 stop:=by
  rintro ⟨s,rb⟩ h h' ⟨h1,h2,h3,h4⟩ hn hr
  exact ⟨by omega,by rw [hr 6 (.inl rfl)];exact h2,by rw [hr 1 (.inr (.inl rfl))];exact h3,by rw [hr 2 (.inr (.inr (.inl rfl)))];exact h4⟩
theorem j64 {tm:AM.T V} {v0 v7:V} (hT:TSat 20 [(0,v0),(1,.ptr 0 0 0),(2,.ptr 1 0 0),(3,.ptr 2 0 0),(4,.ptr 3 0 0),(7,v7)] tm):(qj7 tm).Ok 6 900000000:=by
 rintro ⟨s,rb⟩ h x ⟨w1,hl,hg1,hg2,hb⟩ hx hB
 have hB:s.length+szD x≤900000000:=hB
 have htl:=y3 x
 refine Ev.yield (L0:=[(0,v0),(1,.ptr 0 0 0),(2,.ptr 1 0 0),(3,.ptr 2 0 0),(4,.ptr 3 0 0),(7,v7)]) [2,3,4,8] [(2,.ptr 1 0 0),(3,.ptr 2 0 0),(4,.ptr 3 0 0),(8,encD x)] hl hT (by kernel_rfl) ?_
 refine Wc.enter (Wl.bn0 0 1 [(2,(.ptr 1 0 0)),(3,(.ptr 2 0 0)),(4,(.ptr 3 0 0)),(5,(.ptr h.n 0 0)),(8,(encD x))] (newRow h 26 4 0 (some 1) [V.agg [V.int .i64 0,V.str [],V.int .i64 0,V.nils]]) ?_)
 obtain ⟨h3,hst,n3,g3,g3u⟩:=zo7 (P:=Tryd.prog) (h:=h) (t:=26) (ty:=26) (sz:=4) (c:=some 1) (z:=.agg [V.int IntKind.i64 0,V.str [],V.int IntKind.i64 0,V.nils]) (v:=encD x) (by kernel_rfl)
 obtain ⟨u,hu⟩:∃ u,u=h.n:=⟨_,rfl⟩
 rw [← hu] at hst g3u ⊢
 refine Wl.storeE (b:=qk5 35 20 6) (t:=26) (a:=.ptr u 0 0) (v:=encD x) (d:=none) 1 [2,3,4,5] [(2,.ptr 1 0 0),(3,.ptr 2 0 0),(4,.ptr 3 0 0),(5,.ptr u 0 0)] (by kernel_rfl) hst (by kernel_rfl) ?_
 refine Wl.dn 2 ?_
 refine qj8.mk none (by rw [g3 6 w1];exact hl) ?_
 obtain ⟨h4,hh4⟩:∃ h4,h4=h3.set 6 (.loop .busy none 35 20 tm [8] (rAs Tryd.prog 35 0) (rBd Tryd.prog 35 0) 5):=⟨_,rfl⟩
 rw [← hh4]
 have n4:h4.n=h.n+1:=by rw [hh4,Heap.n_set,n3]
 have g4:∀ p,p≠6→p<h.n→h4.get p=h.get p:=fun p hp hp2=>by rw [hh4,Heap.get_set,if_neg (fun e=>hp e.symm),g3 p hp2]
 have g4l:h4.get 6=.loop .busy none 35 20 tm [8] (rAs Tryd.prog 35 0) (rBd Tryd.prog 35 0) 5:=by rw [hh4,Heap.get_set,if_pos rfl]
 have g4u:h4.get u=.row 0 26 4 0 (some 1) [encD x]:=by rw [hh4,Heap.get_set,if_neg (by omega),g3u]
 have hb3:=hb
 have hrb:s≠[]→rb≠6∧rb≠1∧rb≠2∧rb<h.n:=fun q=>by
  obtain ⟨_,a,b,_,_,p | ⟨_,_,p3,ver,_,p5⟩⟩:=hb
  ·exact absurd p.1 q
  exact ⟨fun e=>(by rw [e,hl] at p5;cases p5),fun e=>(by rw [e,hg1] at p5;cases p5),fun e=>(by rw [e,hg2] at p5;cases p5),p3⟩
 have hb4:Bd h4 3 rb s:=by
  obtain ⟨b1,a,b,b2,b3,b4⟩:=hb
  refine ⟨by omega,a,b,by rw [g4 3 (by omega) b1];exact b2,b3,?_⟩
  rcases b4 with q | ⟨q1,q2,q3,ver,q4,q5⟩
  ·exact .inl q
  exact .inr ⟨q1,q2,by omega,ver,q4,by rw [g4 rb (hrb q1).1 q3];exact q5⟩
 have lk:load Tryd.prog h4 3 (.ptr u 0 0)=some (.int .i64 x.kind):=y4 g4u (by kernel_rfl)
 have lt:load Tryd.prog h4 9 (.ptr u 0 1)=some (.str x.text):=y4 g4u (by kernel_rfl)
 obtain ⟨h5,rb5,c5,x5⟩:=j77 hb4 (by omega)
 obtain ⟨h6,rb6,c6,x6⟩:∃ h' rb',Cs Tryd.prog EU 50 [.ptr 3 0 0,.str x.text] h4 (.tup [.int .i64 (x.text.length:Int),.nili]) h'∧qy9 h4 h' 3 rb rb' s (s++x.text):=by
  by_cases ht:x.text=[]
  ·obtain ⟨h',p,q⟩:=j93 hb4
   exact ⟨h',rb,by rw [ht];exact p,by rw [ht,List.append_nil];exact q⟩
  exact jb0 hb4 ht (by omega)
 have fin:∀ (h7:Heap) (rb':Nat) (s':List UInt8),qy9 h4 h7 3 rb rb' s s'→s'=s++qj2 x→x.kind≠4→h7.get 6=.loop .busy none 35 20 tm [8] (rAs Tryd.prog 35 0) (rBd Tryd.prog 35 0) 5∧(∃ a',(qj7 tm).T (s,rb) x true a'∧Kp ((qj7 tm).own (s,rb)) ((qj7 tm).own a') h (h7.set 6 (.loop .ready none 35 20 tm [8] (rAs Tryd.prog 35 0) (rBd Tryd.prog 35 0) 5))∧(qj7 tm).G a' (h7.set 6 (.loop .ready none 35 20 tm [8] (rAs Tryd.prog 35 0) (rBd Tryd.prog 35 0) 5))∧(qj7 tm).wt a'≤(qj7 tm).wt (s,rb)+szD x):=by
  intro h7 rb' s' ⟨z1,z2,z3,z4,z5⟩ hs' hk4
  have zk:∀ p,p<h4.n→p≠3→p=6∨p=1∨p=2→h7.get p=h4.get p:=fun p hp h3 hq=>z3 p hp h3 fun q e=>by
   obtain ⟨r1,r2,r3,_⟩:=hrb q
   rcases hq with e' | e' | e' <;> omega
  have g7l:=(zk 6 (by omega) (by omega) (.inl rfl)).trans g4l
  have hrb':s'≠[]→rb'≠6∧rb'≠1∧rb'≠2:=fun q=>by
   by_cases hs:s=[]
   ·have e:=z5 hs q
    omega
   have e:=z4 hs
   obtain ⟨r1,r2,r3,_⟩:=hrb hs
   omega
  refine ⟨g7l,(s',rb'),⟨by simp [hk4],fun _=>hs'⟩,⟨by rw [Heap.n_set];omega,fun p hp ho=>?_,fun p ho=>?_⟩,⟨by rw [Heap.n_set];omega,by rw [Heap.get_set,if_pos rfl],?_,?_,?_⟩,?_⟩
  ·have o1:p≠6:=fun e=>ho (.inl e)
   have o2:p≠3:=fun e=>ho (.inr (.inr (.inr (.inl e))))
   have o3:s≠[]→p≠rb:=fun q e=>ho (.inr (.inr (.inr (.inr ⟨q,e⟩))))
   rw [Heap.get_set,if_neg (fun e=>o1 e.symm),z3 p (by omega) o2 o3,g4 p o1 hp]
  ·rcases ho with e | e | e | e | ⟨e1,e2⟩
   ·exact .inl (.inl e)
   ·exact .inl (.inr (.inl e))
   ·exact .inl (.inr (.inr (.inl e)))
   ·exact .inl (.inr (.inr (.inr (.inl e))))
   by_cases hs:s=[]
   ·have e:=z5 hs e1
    simp only at e2;exact .inr (by omega)
   exact .inl (.inr (.inr (.inr (.inr ⟨hs,by rw [e2];exact z4 hs⟩))))
  ·rw [Heap.get_set,if_neg (by omega),zk 1 (by omega) (by omega) (.inr (.inl rfl)),g4 1 (by omega) (by omega)];exact hg1
  ·rw [Heap.get_set,if_neg (by omega),zk 2 (by omega) (by omega) (.inr (.inr rfl)),g4 2 (by omega) (by omega)];exact hg2
  ·obtain ⟨b1,a,b,b2,b3,b4⟩:=z1
   refine ⟨by rw [Heap.n_set];exact b1,a,b,by rw [Heap.get_set,if_neg (by omega)];exact b2,b3,?_⟩
   rcases b4 with q | ⟨q1,q2,q3,ver,q4,q5⟩
   ·exact .inl q
   exact .inr ⟨q1,q2,by rw [Heap.n_set];exact q3,ver,q4,by rw [Heap.get_set,if_neg (fun e=>(hrb' q1).1 e.symm)];exact q5⟩
  show s'.length≤s.length+szD x
  have:=xo1 x
  rw [hs',List.length_append];omega
 refine Wc.block (Wc.seq (Wc.enter (Wl.bn0 0 1 [(2,(.ptr 1 0 0)),(3,(.ptr 2 0 0)),(4,(.ptr 3 0 0)),(5,(.ptr (u) 0 0)),(9,(.ptr (u) 0 0))] h4 ?_)))
 refine Wl.l 1 [(10,(.int .i64 (x.kind)))] (@lk) ?_
 refine Wl.dn 2 (Wc.block (Wc.seq (Wc.w0 [(14,(.bool (decide (x.kind=4))))] ?_)))
 refine Wc.cq (p:=x.kind=4) (fun c1=>?_) (fun c1=>?_)
 ·refine Wc.seq (Wc.enter ?_)
  have st1:store Tryd.prog h4 9 (.ptr 1 0 0) (.str [])=some (h4.set 1 (.row 0 9 1 0 (some 1) [.str []])):=q27 (o:=.row 0 9 1 0 (some 1) [.str []]) (by rw [g4 1 (by omega) (by omega)];exact hg1) (by kernel_rfl)
  obtain ⟨h7,hh7⟩:∃ h7,h7=h4.set 1 (.row 0 9 1 0 (some 1) [.str []]):=⟨_,rfl⟩
  rw [← hh7] at st1
  have g7:∀ p,h7.get p=h4.get p:=fun p=>by
   rw [hh7,Heap.get_set]
   split
   ·rename_i e;rw [← e,g4 1 (by omega) (by omega),hg1]
   rfl
  have st2:store Tryd.prog h7 4 (.ptr 2 0 0) (.bool false)=some (h7.set 2 (.row 0 4 1 0 (some 1) [.bool false])):=q27 (o:=.row 0 4 1 0 (some 1) [.bool false]) (by rw [g7,g4 2 (by omega) (by omega)];exact hg2) (by kernel_rfl)
  obtain ⟨h8,hh8⟩:∃ h8,h8=h7.set 2 (.row 0 4 1 0 (some 1) [.bool false]):=⟨_,rfl⟩
  rw [← hh8] at st2
  have g8:∀ p,h8.get p=h4.get p:=fun p=>by
   rw [hh8,Heap.get_set]
   split
   ·rename_i e;rw [← e,g4 2 (by omega) (by omega),hg2]
   exact g7 p
  have n8:h8.n=h4.n:=by rw [hh8,Heap.n_set,hh7,Heap.n_set]
  refine Wl.storeE (b:=qk5 35 20 6) (t:=9) (a:=.ptr 1 0 0) (v:=.str []) (d:=none) 0 [2,3] [(2,.ptr 1 0 0),(3,.ptr 2 0 0)] (by kernel_rfl) st1 (by kernel_rfl) ?_
  refine Wl.storeE (b:=qk5 35 20 6) (t:=4) (a:=.ptr 2 0 0) (v:=.bool false) (d:=none) 1 [2,3] [(2,.ptr 1 0 0),(3,.ptr 2 0 0)] (by kernel_rfl) st2 (by kernel_rfl) ?_
  refine Wl.dn 2 (Wc.ret (z8.ret ?_))
  refine z8.ret ?_
  refine yOut.ret none (by rw [g8];exact g4l) ⟨(s,rb),⟨by simp [c1],fun q=>by simp at q⟩,⟨by rw [Heap.n_set];omega,fun p hp ho=>?_,fun p ho=>.inl ho⟩,⟨by rw [Heap.n_set];omega,by rw [Heap.get_set,if_pos rfl],?_,?_⟩,?_⟩
  ·have o1:p≠6:=fun e=>ho (.inl e)
   rw [Heap.get_set,if_neg (fun e=>o1 e.symm),g8,g4 p o1 hp]
  ·rw [Heap.get_set,if_neg (by omega),g8,g4 1 (by omega) (by omega)];exact hg1
  ·rw [Heap.get_set,if_neg (by omega),g8,g4 2 (by omega) (by omega)];exact hg2
  show s.length≤s.length+szD x;omega
 refine Wc.seq (Wc.w0 [(16,(.bool (decide (x.kind=2))))] ?_)
 refine Wc.cq (p:=x.kind=2) (fun c2=>?_) (fun c2=>?_)
 ·refine Wc.enter (Wl.s 0 [] (@c5) ?_)
  refine Wl.dn 1 ?_
  obtain ⟨p1,a',p2,p3,p4,p5⟩:=fin h5 rb5 _ x5 (by unfold qj2;rw [if_pos c2]) c1
  exact yEnd.mk none p1 ⟨a',p2,p3,p4,p5⟩
 refine Wc.enter (Wl.b0 0 1 [(11,(.ptr (u) 0 1))] ?_)
 refine Wl.l 1 [(12,(.str (x.text)))] (@lt) ?_
 refine Wl.s 2 [] (@c6) ?_
 refine Wl.dn 3 ?_
 obtain ⟨p1,a',p2,p3,p4,p5⟩:=fin h6 rb6 _ x6 (by unfold qj2;rw [if_neg c2]) c1
 exact yEnd.mk none p1 ⟨a',p2,p3,p4,p5⟩
theorem x92 (s:List UInt8):mapO qh8 (s.map bV)=some s:=by
 induction s with
 | nil=>rfl
 | cons c s IH =>
  have e:qh8 (bV c)=some c:=by
   change (bif Nat.blt c.toNat 256 then some (UInt8.ofNat c.toNat) else none)=some c
   rw [show Nat.blt c.toNat 256=true from by rw [Nat.blt_eq];exact c.toNat_lt]
   simp
  rw [List.map_cons]
  unfold mapO at IH ⊢
  simp only [e,IH]
theorem xw0 {h:Heap} {r:Nat} (lb:load Tryd.prog h 22 (.ptr r 0 1)=some .nils):Cs Tryd.prog EU 37 [.ptr r 0 0] h (.str []) h:=by
 refine Cs.body (fn:=Tryd.f37) Tryd.func37 rfl (by kernel_rfl) ?_
 refine Wc.seq (Wc.wn0 [(0,(.ptr (r) 0 0)),(2,(.str []))] h ?_)
 refine Wc.seq (Wc.drawn0 (by kernel_rfl) ?_)
 refine Dl.bn0 0 3 [(5,(.ptr (r) 0 1))] (h) ?_
 refine Dl.l 3 [(6,.nils)] (@lb) ?_
 refine Dl.b0 4 8 [(7,.nilp),(10,(.ptr (r) 0 1))] ?_
 refine Dl.l 8 [(11,.nils)] (@lb) ?_
 refine Dl.b0 9 12 [] ?_
 refine Dl.done 12 rfl ?_
 refine Wc.ret ?_
 refine retX.mk (.str []) ⟨rfl,rfl⟩ (by kernel_rfl) ?_
 exact ⟨by kernel_rfl,by kernel_rfl⟩
theorem xw3 {h:Heap} {r rb ver:Nat} {s:List UInt8} (lb:load Tryd.prog h 22 (.ptr r 0 1)=some (.sl rb ver 0 s.length none)) (hs:s≠[]) (q5:h.get rb=.row ver 5 1 0 none (s.map bV)) (hl:s.length≤1000000000):Cs Tryd.prog EU 37 [.ptr r 0 0] h (.str s) (h.set rb (.row ver 5 1 (Nat.max 0 s.length) none (s.map bV))):=by
 have hp:0<s.length:=List.length_pos_iff.2 hs
 refine Cs.body (fn:=Tryd.f37) Tryd.func37 rfl (by kernel_rfl) ?_
 refine Wc.seq (Wc.wn0 [(0,(.ptr (r) 0 0)),(2,(.str []))] h ?_)
 refine Wc.seq ?_
 have hd:builtin Tryd.prog .unsafeSliceData [22] h [.sl rb ver 0 s.length none]=.val (.ptr rb ver 0) h:=by
  change z11 h (.sl rb ver 0 s.length none)=_
  unfold z11
  simp only
  rw [q5]
  have e:(Nat.beq ver ver&&Nat.blt 0 s.length&&zh1 none)=true:=by
   rw [Nat.beq_refl,show Nat.blt 0 s.length=true from by rw [Nat.blt_eq];exact hp];rfl
  simp only [e,cond_true]
 have ht:builtin Tryd.prog .unsafeString [99,3] h [.ptr rb ver 0,.int .i64 (s.length:Int)]=.val (.str s) (h.set rb (.row ver 5 1 (Nat.max 0 s.length) none (s.map bV))) :=
  xy4 (P:=Tryd.prog) (t:=99) (s:=s) (es:=s.map bV) q5 (by kernel_rfl) hp (by simp) (by unfold room;omega) (x92 s)
 refine Wc.drawn0 (by kernel_rfl) ?_
 refine Dl.b0 0 3 [(0,(.ptr r 0 0)),(5,(.ptr r 0 1))] ?_
 refine Dl.l 3 [(6,(.sl rb ver 0 s.length none))] lb ?_
 refine Dl.opE (b:=base 37 14) (h2:=h) 4 (builtin Tryd.prog .unsafeSliceData [22] h [.sl rb ver 0 s.length none]) (.ptr rb ver 0) [0,2,7] [(0,.ptr r 0 0),(2,.str []),(7,.ptr rb ver 0)] (by kernel_rfl) (by kernel_rfl) hd (by kernel_rfl) (by kernel_rfl) ?_
 refine Dl.bn0 5 8 [(0,(.ptr r 0 0)),(2,(.str [])),(7,(.ptr rb ver 0)),(10,(.ptr r 0 1))] h ?_
 refine Dl.l 8 [(11,(.sl rb ver 0 s.length none))] lb ?_
 refine Dl.b0 9 10 [(12,(.int .i64 (s.length:Int)))] ?_
 refine Dl.opE (b:=base 37 14) (h2:=h.set rb (.row ver 5 1 (Nat.max 0 s.length) none (s.map bV))) 10 (builtin Tryd.prog .unsafeString [99,3] h [.ptr rb ver 0,.int .i64 (s.length:Int)]) (.str s) [0,2,13] [(0,.ptr r 0 0),(2,.str []),(13,.str s)] (by kernel_rfl) (by kernel_rfl) ht (by kernel_rfl) (by kernel_rfl) ?_
 refine Dl.bn0 11 12 [(0,(.ptr r 0 0)),(2,(.str s))] (h.set rb (.row ver 5 1 (Nat.max 0 s.length) none (s.map bV))) ?_
 refine Dl.done 12 rfl ?_
 refine Wc.ret ?_
 refine retX.mk (.str s) ⟨rfl,rfl⟩ (by kernel_rfl) ?_
 exact ⟨by kernel_rfl,by kernel_rfl⟩
theorem j03 {h:Heap} {r rb:Nat} {s:List UInt8} (hb:Bd h r rb s) (hl:s.length≤1000000000):∃ h',Cs Tryd.prog EU 37 [.ptr r 0 0] h (.str s) h'∧h'.n=h.n∧(∀ p,(s≠[]→p≠rb)→h'.get p=h.get p):=by
 obtain ⟨hrn,a,b,hr,ha,hb⟩:=hb
 rcases hb with ⟨rfl,rfl⟩ | ⟨hs,q2,q3,ver,rfl,q5⟩
 ·exact ⟨h,xw0 (y4 hr (by kernel_rfl)),rfl,fun _ _=>rfl⟩
 ·exact ⟨_,xw3 (y4 hr (by kernel_rfl)) hs q5 hl,Heap.n_set _ _ _,fun p hp=>by rw [Heap.get_set,if_neg (fun e=>hp hs e.symm)]⟩
theorem xy0 {tm:AM.T V} {a a':List UInt8×Nat} {l:List Dc} {b:Bool} (h:RunY (qj7 tm).T a l b a'):b=!(l.any fun x=>decide (x.kind=4))∧(b=true→a'.1=a.1++(l.map qj2).flatten):=by
 induction h with
 | nil a=>simp
 | cons h t IH =>
  obtain ⟨h1,h2⟩:=h
  obtain ⟨i1,i2⟩:=IH
  have h1:decide (_≠_)=true:=h1.symm
  simp only [ne_eq,decide_eq_true_eq] at h1
  refine ⟨by rw [i1];simp [h1],fun hb=>?_⟩
  rw [i2 hb,h2 rfl];simp
 | stop h =>
  obtain ⟨h1,h2⟩:=h
  have h1:decide (_≠_)=false:=h1.symm
  simp only [ne_eq,decide_eq_false_iff_not,Decidable.not_not] at h1
  exact ⟨by simp [h1],fun hb=>by cases hb⟩
theorem xl3:∀ (n:Nat) (d:Dc),szD d≤n→((q56 d).any fun x=>decide (x.kind=4))=k8 d:=by
 intro n
 induction n with
 | zero=>intro d h;have:=q07 d;omega
 | succ n IH =>
  intro d h
  rw [qh1,z23]
  by_cases h5:d.kind<5
  ·rw [if_pos h5]
   have e:decide (5≤d.kind)=false:=decide_eq_false (by omega)
   rw [e];simp
  ·rw [if_neg h5]
   have e:decide (5≤d.kind)=true:=decide_eq_true (by omega)
   have e4:decide (d.kind=4)=false:=decide_eq_false (by omega)
   rw [e,e4]
   simp only [Bool.false_or,Bool.true_and]
   have key:∀ l:List Dc,(∀ k,k∈l→szD k≤n)→((l.map q56).flatten.any fun x=>decide (x.kind=4))=l.any k8:=by
    intro l
    induction l with
    | nil=>intro _;rfl
    | cons k l IH2 =>
     intro hk
     rw [List.map_cons,List.flatten_cons,List.any_append,IH k (hk k (by simp)),IH2 fun q hq=>hk q (by simp [hq]),List.any_cons]
   refine key _ fun k hk=>?_
   obtain ⟨i,hi,e⟩:=List.getElem_of_mem hk
   have:=qg0 d hi
   rw [List.getD_eq_getElem?_getD,List.getElem?_eq_getElem hi,Option.getD_some,e] at this
   omega
theorem xj7:∀ (n:Nat) (d:Dc),szD d≤n→j7 d→((q56 d).map qj2).flatten=x8 d:=by
 intro n
 induction n with
 | zero=>intro d h;have:=q07 d;omega
 | succ n IH =>
  intro d h hr
  rw [qh1,qq7]
  by_cases h5:d.kind<5
  ·rw [if_pos h5,if_neg (show ¬ 5≤d.kind by omega)]
   have hr':=hr
   rw [j7] at hr'
   have ht:d.kind≠1→d.text=[]:=fun q=>by
    have:=hr'.2.2.1
    by_cases e:d.text=[]
    ·exact e
    ·exact absurd (this.1 e) q
   simp only [List.map_cons,List.map_nil,List.flatten_cons,List.flatten_nil,List.append_nil]
   unfold qj2
   by_cases h2:d.kind=2
   ·rw [if_pos h2,if_neg (by omega),if_pos h2]
   ·rw [if_neg h2]
    by_cases h1:d.kind=1
    ·rw [if_pos h1]
    ·rw [if_neg h1,if_neg h2,ht h1]
  ·rw [if_neg h5,if_neg (by omega),if_neg (by omega),if_pos (by omega),List.nil_append]
   have key:∀ l:List Dc,(∀ k,k∈l→szD k≤n∧j7 k)→(((l.map q56).flatten).map qj2).flatten=(l.map fun k=>x8 k).flatten:=by
    intro l
    induction l with
    | nil=>intro _;rfl
    | cons k l IH2 =>
     intro hk
     rw [List.map_cons,List.flatten_cons,List.map_append,List.flatten_append,IH k (hk k (by simp)).1 (hk k (by simp)).2,IH2 fun q hq=>hk q (by simp [hq]),List.map_cons,List.flatten_cons]
   refine key _ fun k hk=>⟨?_,qm5 hr hk⟩
   obtain ⟨i,hi,e⟩:=List.getElem_of_mem hk
   have:=qg0 d hi
   rw [List.getD_eq_getElem?_getD,List.getElem?_eq_getElem hi,Option.getD_some,e] at this
   omega
theorem qh9 {d:Dc} (hd:j7 d) (hs:szD d≤100000):Cp Tryd.prog EU 35 [encD d] (.tup [.str (if k8 d then [] else x8 d),.bool (!k8 d)]):=by
 refine Cp.body (fn:=Tryd.f35) Tryd.func35 rfl (by kernel_rfl) ?_
 refine Wc.seq (Wc.wn0 [(0,(.agg [(.int .i64 (d.kind)),(.str (d.text)),(.int .i64 (d.n)),(.osl 4 (esD d))])),(1,(.ptr 0 0 0)),(2,(.ptr 1 0 0)),(3,(.ptr 2 0 0))] (hp [.row 0 26 4 0 (some 1) [(.agg [(.int .i64 (d.kind)),(.str (d.text)),(.int .i64 (d.n)),(.osl 4 (esD d))])],.row 0 9 1 0 (some 1) [(.str [])],.row 0 4 1 0 (some 1) [(.bool false)]]) ?_)
 refine Wc.seq (Wc.wn0 [(4,(.ptr 3 0 0))] (hp [.row 0 26 4 0 (some 1) [(.agg [(.int .i64 (d.kind)),(.str (d.text)),(.int .i64 (d.n)),(.osl 4 (esD d))])],.row 0 9 1 0 (some 1) [(.str [])],.row 0 4 1 0 (some 1) [(.bool false)],.row 0 49 2 0 (some 1) [(.agg [.nilp,.nils])]]) ?_)
 refine Wc.seq (Wc.seq (Wc.enter (Wl.b0 0 1 [(6,(.agg [(.int .i64 (d.kind)),(.str (d.text)),(.int .i64 (d.n)),(.osl 4 (esD d))]))] ?_)))
 refine Wl.s 1 [(7,(.func (.func 69) [] [(.ptr 4 0 0)]))] (@Go.AM.cLeaves (hp [Obj.row 0 26 4 0 (some 1) [V.agg [V.int .i64 d.kind,V.str d.text,V.int .i64 d.n,V.osl 4 (esD d)]],Obj.row 0 9 1 0 (some 1) [V.str []],Obj.row 0 4 1 0 (some 1) [V.bool false],Obj.row 0 49 2 0 (some 1) [V.agg [V.nilp,V.nils]]]) (d)) ?_
 refine Wl.dn 2 (Wc.block ?_)
 refine Wc.rangeAs (f:=.tmp 7) (params:=#[8]) (b:=base 35 20) (q:=69) (args:=[(.func (.yield 6) [] []),.ptr 4 0 0]) (rAs Tryd.prog 35 0) (rBd Tryd.prog 35 0) (by kernel_rfl) rfl rfl (by kernel_rfl) (fun tm hT=>?_)
 obtain ⟨h6,hh6⟩:∃ h6,h6=hp [.row 0 26 4 0 (some 1) [encD d],.row 0 9 1 0 (some 1) [(.str [])],.row 0 4 1 0 (some 1) [(.bool false)],.row 0 49 2 0 (some 1) [(.agg [.nilp,.nils])],.row 0 26 4 0 (some 1) [(encD d)],.defs,.loop .ready none 35 20 tm [8] (rAs Tryd.prog 35 0) (rBd Tryd.prog 35 0) 5]:=⟨_,rfl⟩
 have n6:h6.n=7:=by subst hh6;kernel_rfl
 have hG:(qj7 tm).G ([],0) h6:=by
  have k1:6<h6.n:=by omega
  have k2:3<h6.n:=by omega
  subst hh6
  exact ⟨k1,by kernel_rfl,by kernel_rfl,by kernel_rfl,⟨k2,.nilp,.nils,by kernel_rfl,.inl rfl,.inl ⟨rfl,rfl⟩⟩⟩
 have hcx:=j99 (B:=900000000) (by omega) (szD d) (Nat.le_refl _) (l:=6) (qj7 tm) (j64 (v0:=encD d) (v7:=.func (.func 69) [] [.ptr 4 0 0]) hT.keep) (a:=([],0)) (h:=h6) (r:=4) hG (by subst hh6;kernel_rfl) (fun e=>by
  rcases e with e | e | e | e | ⟨e,_⟩
  ·omega
  ·omega
  ·omega
  ·omega
  exact e rfl) (by omega) (by show 0+szD d≤_;omega)
 refine Cx.monoE (h':=h6) (by subst hh6;kernel_rfl) hcx ?_
 rintro v h7 ⟨rfl,b,⟨s,rb⟩,r1,r2,r3,r4⟩
 change rEnd Tryd.prog EU 6 35 20 [8] _ _ 5 ({ base 35 20 with marks:=[5] }.on _) _ _ _ _ h7
 obtain ⟨t1,t2⟩:=xy0 r1
 rw [xl3 _ d (Nat.le_refl _)] at t1
 have d7:h7.get 5=.defs:=by
  rw [r2.2.1 5 (by omega) (fun e=>?_)]
  ·subst hh6;kernel_rfl
  rcases e with e | e | e | e | ⟨e,_⟩
  ·omega
  ·omega
  ·omega
  ·omega
  exact e rfl
 have hlow:∀ o p,p<6→(h7.set 6 o).get p=h7.get p:=fun o p hp=>by rw [Heap.get_set,if_neg (by omega)]
 cases b with
 | true =>
  obtain ⟨z1,z2,z3,z4,z5⟩:=r3
  have hh:k8 d=false:=by
   cases e:k8 d with
   | false=>rfl
   | true=>rw [e] at t1;cases t1
  have hs2:s=x8 d:=by
   have:=t2 rfl
   rw [xj7 _ d (Nat.le_refl _) hd] at this
   simpa using this
  have z5:Bd h7 3 rb s:=z5
  have hrb:s≠[]→rb≠6∧rb≠1∧rb≠2∧rb≠5:=fun q=>by
   obtain ⟨_,a,b,_,_,p | ⟨_,_,p3,ver,_,p5⟩⟩:=z5
   ·exact absurd p.1 q
   exact ⟨fun e=>(by rw [e,z2] at p5;cases p5),fun e=>(by rw [e,z3] at p5;cases p5),fun e=>(by rw [e,z4] at p5;cases p5),fun e=>(by rw [e,d7] at p5;cases p5)⟩
  refine rEnd.mk .ready tm z2 (by simp) ?_
  obtain ⟨h8,hh8⟩:∃ h8,h8=h7.set 6 (.loop .exhausted none 35 20 tm [8] (rAs Tryd.prog 35 0) (rBd Tryd.prog 35 0) 5):=⟨_,rfl⟩
  change Wc Tryd.prog EU _ _ (h7.set 6 (.loop .exhausted none 35 20 tm [8] (rAs Tryd.prog 35 0) (rBd Tryd.prog 35 0) 5)) _ _ _
  rw [← hh8]
  have hb8:Bd h8 3 rb s:=by
   obtain ⟨b1,a,b,b2,b3,b4⟩:=z5
   refine ⟨by rw [hh8,Heap.n_set];exact b1,a,b,by rw [hh8,hlow _ 3 (by omega)];exact b2,b3,?_⟩
   rcases b4 with q | ⟨q1,q2,q3,ver,q4,q5⟩
   ·exact .inl q
   exact .inr ⟨q1,q2,by rw [hh8,Heap.n_set];exact q3,ver,q4,by rw [hh8,Heap.get_set,if_neg (fun e=>(hrb q1).1 e.symm)];exact q5⟩
  obtain ⟨h9,c9,n9,g9⟩:=j03 hb8 (by rw [hs2];have:=qf4 d;omega)
  have k1:h9.get 1=.row 0 9 1 0 (some 1) [.str []]:=by rw [g9 1 (fun q e=>(hrb q).2.1 e.symm),hh8,hlow _ 1 (by omega)];exact z3
  have k2:h9.get 2=.row 0 4 1 0 (some 1) [.bool false]:=by rw [g9 2 (fun q e=>(hrb q).2.2.1 e.symm),hh8,hlow _ 2 (by omega)];exact z4
  have k5:h9.get 5=.defs:=by rw [g9 5 (fun q e=>(hrb q).2.2.2 e.symm),hh8,hlow _ 5 (by omega)];exact d7
  have st1:store Tryd.prog h9 9 (.ptr 1 0 0) (.str s)=some (h9.set 1 (.row 0 9 1 0 (some 1) [.str s])):=q27 k1 (by kernel_rfl)
  obtain ⟨h10,hh10⟩:∃ h10,h10=h9.set 1 (.row 0 9 1 0 (some 1) [.str s]):=⟨_,rfl⟩
  rw [← hh10] at st1
  have st2:store Tryd.prog h10 4 (.ptr 2 0 0) (.bool true)=some (h10.set 2 (.row 0 4 1 0 (some 1) [.bool true])):=q27 (o:=.row 0 4 1 0 (some 1) [.bool false]) (by rw [hh10,Heap.get_set,if_neg (by omega)];exact k2) (by kernel_rfl)
  obtain ⟨h11,hh11⟩:∃ h11,h11=h10.set 2 (.row 0 4 1 0 (some 1) [.bool true]):=⟨_,rfl⟩
  rw [← hh11] at st2
  refine Wc.seq (Wc.enter (Wl.s 0 [(0,(.agg [(.int .i64 (d.kind)),(.str (d.text)),(.int .i64 (d.n)),(.osl 4 (esD d))])),(1,(.ptr 0 0 0)),(2,(.ptr 1 0 0)),(3,(.ptr 2 0 0)),(4,(.ptr 3 0 0)),(7,(.func (.func 69) [] [(.ptr 4 0 0)])),(19,(.str s))] (@c9) ?_))
  refine Wl.storeE (b:=({ base 35 20 with marks:=[5] })) (t:=9) (a:=.ptr 1 0 0) (v:=.str s) (d:=none) 1 [2,3] [(2,.ptr 1 0 0),(3,.ptr 2 0 0)] (by kernel_rfl) st1 (by kernel_rfl) ?_
  refine Wl.storeE (b:=({ base 35 20 with marks:=[5] })) (t:=4) (a:=.ptr 2 0 0) (v:=.bool true) (d:=none) 2 [2,3] [(2,.ptr 1 0 0),(3,.ptr 2 0 0)] (by kernel_rfl) st2 (by kernel_rfl) ?_
  refine Wl.dn 3 (Wc.ret ?_)
  obtain ⟨h12,m1,m2,m3⟩:=qd9 (ms:=[5]) (h:=h11) (fun m hm=>by
   rw [List.mem_singleton] at hm
   subst hm
   rw [hh11,Heap.get_set,if_neg (by omega),hh10,Heap.get_set,if_neg (by omega)];exact k5) (by simp)
  refine retX.marks h12 (.tup [.str s,.bool true]) rfl m1 (z26 (p:=.ptr 1 0 0) (q:=.ptr 2 0 0) rfl (by kernel_rfl) (by kernel_rfl) (y4 (o:=.row 0 9 1 0 (some 1) [.str s]) ?_ (by kernel_rfl)) (y4 (o:=.row 0 4 1 0 (some 1) [.bool true]) ?_ (by kernel_rfl))) ?_
  ·rw [m3 1 (by simp),hh11,Heap.get_set,if_neg (by omega),hh10,Heap.get_set,if_pos rfl]
  ·rw [m3 2 (by simp),hh11,Heap.get_set,if_pos rfl]
  rw [hh,← hs2];rfl
 | false =>
  obtain ⟨z1,z2,z3,z4⟩:=r3
  have hh:k8 d=true:=by
   cases e:k8 d with
   | true=>rfl
   | false=>rw [e] at t1;cases t1
  refine rEnd.mkC .done .ret tm z2 (by simp) ?_
  obtain ⟨h8,hh8⟩:∃ h8,h8=h7.set 6 (.loop .exhausted (some .ret) 35 20 tm [8] (rAs Tryd.prog 35 0) (rBd Tryd.prog 35 0) 5):=⟨_,rfl⟩
  change Wc Tryd.prog EU .ret _ (h7.set 6 (.loop .exhausted (some .ret) 35 20 tm [8] (rAs Tryd.prog 35 0) (rBd Tryd.prog 35 0) 5)) _ _ _
  rw [← hh8]
  refine Wc.ret ?_
  obtain ⟨h12,m1,m2,m3⟩:=qd9 (ms:=[5]) (h:=h8) (fun m hm=>by
   rw [List.mem_singleton] at hm
   subst hm
   rw [hh8,hlow _ 5 (by omega)];exact d7) (by simp)
  refine retX.marks h12 (.tup [.str [],.bool false]) rfl m1 (z26 (p:=.ptr 1 0 0) (q:=.ptr 2 0 0) rfl (by kernel_rfl) (by kernel_rfl) (y4 (o:=.row 0 9 1 0 (some 1) [.str []]) ?_ (by kernel_rfl)) (y4 (o:=.row 0 4 1 0 (some 1) [.bool false]) ?_ (by kernel_rfl))) ?_
  ·rw [m3 1 (by simp),hh8,hlow _ 1 (by omega)];exact z3
  ·rw [m3 2 (by simp),hh8,hlow _ 2 (by omega)];exact z4
  rw [hh];rfl
end Go.AM
namespace Go.AM
open Go.Proofs
set_option maxRecDepth 100000
set_option maxHeartbeats 4000000
noncomputable def xc3 (w:Int) (is:Bool):Fr:=(base 15 99).on [(5,.int .i64 w),(6,.ptr 0 0 0),(7,.ptr 1 0 0),(8,.ptr 2 0 0),(9,.bool is)]
noncomputable def layH (tv:V) (r:List Th) (out:List UInt8) (col:Int):Heap :=
 match out with
 | []=>hp [.row 0 51 3 0 (some 1) [.agg [.nilp,.nils,.int .i64 col]],.row 0 54 1 0 (some 1) [.sl 3 0 0 r.length none],.row 0 57 6 0 (some 1) [tv],.row 0 57 6 0 none (r.reverse.map encT)]
 | c::l=>hp [.row 0 51 3 0 (some 1) [.agg [.ptr 0 0 0,.sl 4 0 0 (c::l).length none,.int .i64 col]],.row 0 54 1 0 (some 1) [.sl 3 0 0 r.length none],.row 0 57 6 0 (some 1) [tv],.row 0 57 6 0 none (r.reverse.map encT),.row 0 5 1 0 none ((c::l).map bV)]
def pnD (d:Dc):Nat:=d.n.natAbs+((d.kids.attach.map fun k=>pnD k.1).foldr max 0)
termination_by SizeOf.sizeOf d
decreasing_by exact qp3 k.2
theorem xm8 (d:Dc):pnD d=d.n.natAbs+((d.kids.map pnD).foldr max 0):=by
 rw [pnD]
 congr 2
 conv=>rhs;rw [← List.attach_map_subtype_val d.kids,List.map_map]
 rfl
theorem xh4 {l:List Nat} {x:Nat} (h:x∈l):x≤l.foldr max 0:=by
 induction l with
 | nil=>cases h
 | cons y l IH =>
  rw [List.foldr_cons]
  rcases List.mem_cons.1 h with e | e
  ·omega
  ·have:=IH e;omega
def okL (t:Th):Prop:=j7 t.d∧t.n.natAbs+pnD t.d≤320
theorem zd7 {t:Th} (h:okL t) (fl:Bool):∀ k,k∈z6 t fl→okL k:=fun k hk=>by
 unfold z6 at hk
 obtain ⟨d,hd,rfl⟩:=List.mem_map.1 hk
 refine ⟨qm5 h.1 hd,?_⟩
 have h1:=xh4 (List.mem_map_of_mem (f:=pnD) hd)
 have h2:=xm8 t.d
 have h3:=h.2
 simp only
 omega
theorem qy3 {t:Th} (h:okL t) (hs:szD t.d≤2000):okT t:=⟨h.1,by have:=h.2;omega⟩
abbrev LayA:=Option Th×List Th×List UInt8×Int
def layT (a:LayA):List Th:=a.1.toList++a.2.1
noncomputable def curV:Option Th→V
 | none=>.agg [.int .i64 0,.str [],.int .i64 0,.nils,.bool false,.int .i64 0]
 | some t=>encT t
structure LayQ (w:Int) (R:List UInt8) (L:List Th) (out:List UInt8) (col:Int):Prop where
 ok:∀ t,t∈L→okL t
 sum:sumT L≤2000
 hcol:0≤col∧col+sumT L≤3000
 hout:out.length+400*sumT L≤1000000
 all:out++layS w L col=R
def layI (w:Int) (R:List UInt8) (a:LayA):Prop:=LayQ w R (layT a) a.2.2.1 a.2.2.2∧(a.1=none→a.2.1=[])
theorem qb6 {w col:Int} {t:Th} {r:List Th}:layS w (t::r) col=if t.d.kind=1 then t.d.text++layS w r (colS t.d.text col)
  else if t.d.kind=2∨t.d.kind=3∨t.d.kind=4 then
   (if !t.flat||t.d.kind=4 then endS t.n++layS w r (t.n.toNat:Int)
   else if t.d.kind=2 then 32::layS w r (col+1)
   else layS w r col)
  else if t.d.kind=6 then
   (if !k8 t.d&&y1 w (z6 t true++r) col then layS w (z6 t true++r) col else layS w (z6 t t.flat++r) col)
  else layS w (z6 t t.flat++r) col:=by
 conv=>lhs;unfold layS
theorem x18 (s:List UInt8):(q70 s).length≤s.length:=by unfold q70;rw [List.length_drop];omega
theorem j22 {s:List UInt8} {col:Int} (h:0≤col):0≤colS s col∧colS s col≤col+s.length:=by
 have h1:=q15 s
 have h2:=q15 (q70 s)
 have h3:=x18 s
 unfold colS
 split <;> omega
theorem zt1 (n:Int) (col:Int):colS (endS n) col=(n.toNat:Int):=by
 have hm:(10:UInt8)∈endS n:=by unfold endS;simp
 have hf:q65 (endS n)=true:=decide_eq_true hm
 unfold colS
 rw [if_pos hf,zf4]
 have hb:j6 10 (endS n)=0:=by
  unfold endS
  have h1:∀ k,j6 10 (j2 k)=-1:=by
   intro k
   induction k with
   | zero=>rfl
   | succ k IH =>
    have e:j2 (k+1)=32::j2 k:=rfl
    rw [e]
    simp only [j6]
    rw [IH];rfl
  simp only [j6]
  rw [h1];rfl
 rw [hb]
 have:(endS n).drop (Int.toNat (0+1))=j2 n.toNat:=rfl
 rw [this,za6]
theorem zi6 (col:Int):colS [32] col=col+1:=by
 have h1:=za6 1
 have:wide [32]=1:=h1
 unfold colS
 rw [if_neg (by decide),this];rfl
section layq
variable {w:Int} {R out:List UInt8} {t:Th} {r:List Th} {col:Int}
theorem LayQ.text (hQ:LayQ w R (t::r) out col) (hk:t.d.kind=1):LayQ w R r (out++t.d.text) (colS t.d.text col):=by
 obtain ⟨a,b,c,d,e⟩:=hQ
 rw [j5] at b c d
 have h1:=j22 (s:=t.d.text) c.1
 have h2:=y3 t.d
 refine ⟨fun u hu=>a u (by simp [hu]),by omega,by omega,by rw [List.length_append];omega,?_⟩
 rw [← e,qb6,if_pos hk,List.append_assoc]
theorem LayQ.line (hQ:LayQ w R (t::r) out col) (hk:t.d.kind=2∨t.d.kind=3∨t.d.kind=4) (hf:t.flat=false∨t.d.kind=4):LayQ w R r (out++endS t.n) (colS (endS t.n) col):=by
 obtain ⟨a,b,c,d,e⟩:=hQ
 rw [j5] at b c d
 have h2:=q07 t.d
 have h3:=(a t (by simp)).2
 have hl:(endS t.n).length≤321:=by unfold endS;rw [List.length_cons,q37];omega
 rw [zt1]
 refine ⟨fun u hu=>a u (by simp [hu]),by omega,by omega,by rw [List.length_append];omega,?_⟩
 have hc:(!t.flat||decide (t.d.kind=4))=true:=by
  rcases hf with q | q
  ·rw [q];rfl
  ·rw [decide_eq_true q];simp
 rw [← e,qb6,if_neg (by omega),if_pos hk,if_pos hc,List.append_assoc]
theorem LayQ.blank (hQ:LayQ w R (t::r) out col) (hk:t.d.kind=2) (hf:t.flat=true):LayQ w R r (out++[32]) (colS [32] col):=by
 obtain ⟨a,b,c,d,e⟩:=hQ
 rw [j5] at b c d
 have h2:=q07 t.d
 rw [zi6]
 refine ⟨fun u hu=>a u (by simp [hu]),by omega,by omega,by rw [List.length_append];simp;omega,?_⟩
 have hc:¬ (!t.flat||decide (t.d.kind=4))=true:=by rw [hf,decide_eq_false (by omega)];decide
 rw [← e,qb6,if_neg (by omega),if_pos (.inl hk),if_neg hc,if_pos hk,List.append_assoc];rfl
theorem LayQ.soft (hQ:LayQ w R (t::r) out col) (hk:t.d.kind=3) (hf:t.flat=true):LayQ w R r out col:=by
 obtain ⟨a,b,c,d,e⟩:=hQ
 rw [j5] at b c d
 have h2:=q07 t.d
 refine ⟨fun u hu=>a u (by simp [hu]),by omega,by omega,by omega,?_⟩
 have hc:¬ (!t.flat||decide (t.d.kind=4))=true:=by rw [hf,decide_eq_false (by omega)];decide
 rw [← e,qb6,if_neg (by omega),if_pos (.inr (.inl hk)),if_neg hc,if_neg (by omega)]
theorem LayQ.push (hQ:LayQ w R (t::r) out col) (fl:Bool) (he:layS w (z6 t fl++r) col=layS w (t::r) col):LayQ w R (z6 t fl++r) out col:=by
 obtain ⟨a,b,c,d,e⟩:=hQ
 rw [j5] at b c d
 have h2:=q91 t fl
 refine ⟨fun u hu=>?_,by rw [q57];omega,by rw [q57];omega,by rw [q57];omega,by rw [he];exact e⟩
 rcases List.mem_append.1 hu with q | q
 ·exact zd7 (a t (by simp)) fl u q
 ·exact a u (by simp [q])
theorem qk0 (h1:¬ t.d.kind=1) (h2:¬ (t.d.kind=2∨t.d.kind=3∨t.d.kind=4)) (h6:¬ t.d.kind=6):layS w (z6 t t.flat++r) col=layS w (t::r) col:=by
 rw [qb6,if_neg h1,if_neg h2,if_neg h6]
theorem zj8 (h6:t.d.kind=6) (h:(!k8 t.d&&y1 w (z6 t true++r) col)=true):layS w (z6 t true++r) col=layS w (t::r) col:=by
 rw [qb6 (t:=t),if_neg (by omega),if_neg (by omega),if_pos h6,if_pos h]
theorem qv9 (h6:t.d.kind=6) (h:(!k8 t.d&&y1 w (z6 t true++r) col)=false):layS w (z6 t t.flat++r) col=layS w (t::r) col:=by
 rw [qb6 (t:=t),if_neg (by omega),if_neg (by omega),if_pos h6,if_neg (by rw [h];decide)]
end layq
theorem j44 {ks rl:List Th} {col w:Int} {c:Option Nat} (hk:∀ t,t∈ks++rl.reverse→okT t) (hs:sumT (ks++rl.reverse)≤100000) (hc:0≤col∧col≤1000000000) (hw:-1000000000≤w∧w≤1000000000):Cp Tryd.prog EU 36 [.osl 6 (ks.map encT),.gsl 6 (rl.map encT) c,.int .i64 col,.int .i64 w] (.bool (y1 w (ks++rl.reverse) col)) :=
 .args (.cons (.refl _) (.cons .gsl (.cons (.refl _) (.cons (.refl _) .nil)))) (j87 hk hs hc hw)
theorem x81 {w col:Int} {t:Th} {r:List Th} (h:Heap) (hr:∀ u,u∈r→okL u) (ht:okL t) (hsum:szD t.d+sumT r≤2000) (hc:0≤col) (hc2:col≤3000) (hw:0≤w∧w≤10000) (hg:h.get 3=.row 0 57 6 0 none (r.reverse.map encT)):∀ b,y1 w (z6 t true++r) col=b→Came Tryd.prog EU 36 [.osl 6 ((z6 t true).map encT),.sl 3 0 0 r.length none,.int .i64 col,.int .i64 w] h (.bool b) h:=by
 intro b hb
 have hsz:∀ u,u∈r→szD u.d≤2000:=fun u hu=>by
  have:szD u.d≤sumT r:=by
   clear hg hsum hb
   induction r with
   | nil=>cases hu
   | cons v r IH =>
    rw [j5]
    rcases List.mem_cons.1 hu with e | e
    ·subst e;omega
    ·have:=IH (fun u hu=>hr u (by simp [hu])) e;omega
  omega
 have hok:∀ u,u∈z6 t true++r.reverse.reverse→okT u:=fun u hu=>by
  rw [List.reverse_reverse] at hu
  rcases List.mem_append.1 hu with q | q
  ·exact z16 (qy3 ht (by omega)) true u q
  ·exact qy3 (hr u q) (hsz u q)
 have hs2:sumT (z6 t true++r.reverse.reverse)≤100000:=by
  rw [List.reverse_reverse,q57]
  have:=q91 t true
  omega
 have hf:=j44 (c:=none) hok hs2 ⟨hc,by omega⟩ (w:=w) ⟨by omega,by omega⟩
 rw [List.reverse_reverse,hb] at hf
 have e1:=z99 (c:=none) hg (n:=r.length) (by simp) (zh5 (fun _ _=>rfl) _)
 refine Cp.came (gs:=[.osl 6 ((z6 t true).map encT),.gsl 6 (r.reverse.map encT) none,.int .i64 col,.int .i64 w]) (by kernel_rfl) (h1:=h.set 3 (.row 0 57 6 (Nat.max 0 (Nat.add 0 r.length)) none (r.reverse.map encT))) ?_ (by kernel_rfl) hf (by kernel_rfl)
 rw [qt7,show AM.pub [] q04 h (.osl 6 ((z6 t true).map encT))=some (.osl 6 ((z6 t true).map encT),h) from rfl]
 simp only [qt7,e1]
 rfl
def LayE (w:Int) (R:List UInt8) (t:Th) (n:Nat) (s:Fr) (h:Heap):Prop:=∃ m:List Th×List UInt8×Int,Vw 0 s h ((base 15 99).on [(5,.int .i64 w),(6,.ptr 0 0 0),(7,.ptr 1 0 0),(8,.ptr 2 0 0)]) (layH (encT t) m.1 m.2.1 m.2.2)∧LayQ w R m.1 m.2.1 m.2.2∧w8 m.1<n
theorem qx1 {w:Int} {R:List UInt8} {t:Th} {s:Fr} {h:Heap} {L:List Th} {c:Int} {es:List V} {nL n:Nat} (hv:Vw 0 s h ((base 15 99).on [(5,.int .i64 w),(6,.ptr 0 0 0),(7,.ptr 1 0 0),(8,.ptr 2 0 0)]) (hp [.row 0 51 3 0 (some 1) [.agg [.nilp,.nils,.int .i64 c]],.row 0 54 1 0 (some 1) [.sl 3 0 0 nL none],.row 0 57 6 0 (some 1) [encT t],.row 0 57 6 0 none es])) (hnL:nL=L.length) (hes:es=L.reverse.map encT) (hq:LayQ w R L [] c) (hlt:w8 L<n):LayE w R t n s h:=by
 subst hnL hes
 exact ⟨(L,[],c),hv,hq,hlt⟩
theorem q25 {w:Int} {R:List UInt8} {t:Th} {s:Fr} {h:Heap} {L:List Th} {o:List UInt8} {c:Int} {es bs:List V} {nL nO n:Nat} (hv:Vw 0 s h ((base 15 99).on [(5,.int .i64 w),(6,.ptr 0 0 0),(7,.ptr 1 0 0),(8,.ptr 2 0 0)]) (hp [.row 0 51 3 0 (some 1) [.agg [.ptr 0 0 0,.sl 4 0 0 nO none,.int .i64 c]],.row 0 54 1 0 (some 1) [.sl 3 0 0 nL none],.row 0 57 6 0 (some 1) [encT t],.row 0 57 6 0 none es,.row 0 5 1 0 none bs])) (hnO:nO=o.length) (hbs:bs=o.map bV) (ho:o≠[]) (hnL:nL=L.length) (hes:es=L.reverse.map encT) (hq:LayQ w R L o c) (hlt:w8 L<n):LayE w R t n s h:=by
 subst hnL hes hnO hbs
 refine ⟨(L,o,c),?_,hq,hlt⟩
 cases o with
 | nil=>exact absurd rfl ho
 | cons b o=>exact hv
theorem zt0 {w:Int} {R:List UInt8} {s:Fr} {h:Heap} {cur:Option Th} {L:List Th} {c:Int} {es:List V} {nL n:Nat} {isb:Bool} (hv:Vw 0 s h ((base 15 99).on [(5,.int .i64 w),(6,.ptr 0 0 0),(7,.ptr 1 0 0),(8,.ptr 2 0 0),(9,.bool isb)]) (hp [.row 0 51 3 0 (some 1) [.agg [.nilp,.nils,.int .i64 c]],.row 0 54 1 0 (some 1) [.sl 3 0 0 nL none],.row 0 57 6 0 (some 1) [curV cur],.row 0 57 6 0 none es])) (his:isb=cur.isSome) (hnL:nL=L.length) (hes:es=L.reverse.map encT) (hq:LayQ w R (cur.toList++L) [] c) (hN:cur=none→L=[]) (hlt:w8 (cur.toList++L)<n):∃ a:LayA,Vw 0 s h (xc3 w a.1.isSome) (layH (curV a.1) a.2.1 a.2.2.1 a.2.2.2)∧layI w R a∧w8 (layT a)<n:=by
 subst hnL hes his
 exact ⟨(cur,L,[],c),hv,⟨hq,hN⟩,hlt⟩
theorem x04 {w:Int} {R o:List UInt8} {s:Fr} {h:Heap} {cur:Option Th} {L:List Th} {c:Int} {es:List V} {nL n:Nat} {isb:Bool} (hv:Vw 0 s h ((base 15 99).on [(5,.int .i64 w),(6,.ptr 0 0 0),(7,.ptr 1 0 0),(8,.ptr 2 0 0),(9,.bool isb)]) (hp [.row 0 51 3 0 (some 1) [.agg [.ptr 0 0 0,.sl 4 0 0 o.length none,.int .i64 c]],.row 0 54 1 0 (some 1) [.sl 3 0 0 nL none],.row 0 57 6 0 (some 1) [curV cur],.row 0 57 6 0 none es,.row 0 5 1 0 none (o.map bV)])) (ho:o≠[]) (his:isb=cur.isSome) (hnL:nL=L.length) (hes:es=L.reverse.map encT) (hq:LayQ w R (cur.toList++L) o c) (hN:cur=none→L=[]) (hlt:w8 (cur.toList++L)<n):∃ a:LayA,Vw 0 s h (xc3 w a.1.isSome) (layH (curV a.1) a.2.1 a.2.2.1 a.2.2.2)∧layI w R a∧w8 (layT a)<n:=by
 subst hnL hes his
 refine ⟨(cur,L,o,c),?_,⟨hq,hN⟩,hlt⟩
 cases o with
 | nil=>exact absurd rfl ho
 | cons b o=>exact hv
theorem j24 {r v o n:Nat} {c:Option Nat}:Wke (.agg [.sl r v o n c]) (.sl r v o n c):=⟨rfl,rfl,fun j a b p q=>by
 change [V.sl r v o n c][j]?=some a at p
 change [V.sl r v o n c][j]?=some b at q
 rw [p] at q;cases q;exact .refl _⟩
theorem xx2 {d:Dc} {wd:Int} (hr:j7 d) (hs:szD d≤2000) (hpn:pnD d≤320):Cp Tryd.prog EU 15 [encD d,.int .i64 wd] (.str (layS (max 0 (min wd 10000)) [⟨d,false,0⟩] 0)):=by
 refine Cp.body (fn:=Tryd.f15) Tryd.func15 rfl (by kernel_rfl) ?_
 refine Wc.seq (Wc.wn0 [(0,(.agg [(.int .i64 (d.kind)),(.str (d.text)),(.int .i64 (d.n)),(.osl 4 (esD d))])),(1,(.int .i64 (wd))),(2,(.ptr 0 0 0)),(4,(.str []))] (hp [.row 0 26 4 0 (some 1) [(.agg [(.int .i64 (d.kind)),(.str (d.text)),(.int .i64 (d.n)),(.osl 4 (esD d))])]]) ?_)
 refine Wc.seq (Wc.w0 [(5,(.int .i64 (max 0 (min wd 10000))))] ?_)
 refine Wc.seq (Wc.wn0 [(6,(.ptr 1 0 0))] (hp [.row 0 26 4 0 (some 1) [(.agg [(.int .i64 (d.kind)),(.str (d.text)),(.int .i64 (d.n)),(.osl 4 (esD d))])],.row 0 51 3 0 (some 1) [(.agg [.nilp,.nils,(.int .i64 0)])]]) ?_)
 refine Wc.seq (Wc.wn0 [(7,(.ptr 2 0 0))] (hp [.row 0 26 4 0 (some 1) [(.agg [(.int .i64 (d.kind)),(.str (d.text)),(.int .i64 (d.n)),(.osl 4 (esD d))])],.row 0 51 3 0 (some 1) [(.agg [.nilp,.nils,(.int .i64 0)])],.row 0 54 1 0 (some 1) [(.agg [.nils])]]) ?_)
 refine Wc.seq (Wc.enter (Wl.b0 0 3 [(18,(.gsl 6 [(.agg [(.int .i64 (d.kind)),(.str (d.text)),(.int .i64 (d.n)),(.osl 4 (esD d)),(.bool false),(.int .i64 0)])] (some 1)))] ?_))
 refine Wl.callI (b:=(base 15 99)) (h1:=(hp [.row 0 26 4 0 (some 1) [(.agg [(.int .i64 (d.kind)),(.str (d.text)),(.int .i64 (d.n)),(.osl 4 (esD d))])],.row 0 51 3 0 (some 1) [(.agg [.nilp,.nils,(.int .i64 0)])],.row 0 54 1 0 (some 1) [(.agg [.nils])]])) (args:=[(.ptr 2 0 0),(.gsl 6 [(.agg [(.int .i64 (d.kind)),(.str (d.text)),(.int .i64 (d.n)),(.osl 4 (esD d)),(.bool false),(.int .i64 0)])] (some 1))]) (d:=(some 19)) (fn:=Go.Proofs.Tryd.f30) 3 Go.Proofs.Tryd.func30 rfl (by kernel_rfl) (by kernel_rfl) ?_
 refine Wc.seq (Wc.wn [(0,(.ptr 2 0 0)),(1,(.gsl 6 [(.agg [(.int .i64 (d.kind)),(.str (d.text)),(.int .i64 (d.n)),(.osl 4 (esD d)),(.bool false),(.int .i64 0)])] (some 1))),(4,(.int .i64 0))] (hp [.row 0 26 4 0 (some 1) [(.agg [(.int .i64 (d.kind)),(.str (d.text)),(.int .i64 (d.n)),(.osl 4 (esD d))])],.row 0 51 3 0 (some 1) [(.agg [.nilp,.nils,(.int .i64 0)])],.row 0 54 1 0 (some 1) [(.agg [.nils])]]) [(((-9223372036854775808:Int)≤(↑(1):Int)-1)∧((↑(1):Int)-1≤(9223372036854775807:Int)))] (.cons (by simp) .nil) ?_)
 refine Wc.block (Wc.unroll (Wc.seq (Wc.seq (Wc.wn0 [(0,(.ptr 2 0 0)),(1,(.gsl 6 [(.agg [(.int .i64 (d.kind)),(.str (d.text)),(.int .i64 (d.n)),(.osl 4 (esD d)),(.bool false),(.int .i64 0)])] (some 1))),(4,(.int .i64 0)),(9,(.bool true))] (hp [.row 0 26 4 0 (some 1) [(.agg [(.int .i64 (d.kind)),(.str (d.text)),(.int .i64 (d.n)),(.osl 4 (esD d))])],.row 0 51 3 0 (some 1) [(.agg [.nilp,.nils,(.int .i64 0)])],.row 0 54 1 0 (some 1) [(.agg [.nils])]]) ?_))))
 refine Wc.ct (Wc.skip (Wc.seq (Wc.block (Wc.drawn0 (by kernel_rfl) ?_))))
 refine Dl.bn 0 14 [] (hp [.row 0 26 4 0 (some 1) [(.agg [(.int .i64 (d.kind)),(.str (d.text)),(.int .i64 (d.n)),(.osl 4 (esD d))])],.row 0 51 3 0 (some 1) [(.agg [.nilp,.nils,(.int .i64 0)])],.row 0 54 1 0 (some 1) [(.agg [(.sl 3 0 0 1 none)])],.row 0 57 6 0 none [(.agg [(.int .i64 (d.kind)),(.str (d.text)),(.int .i64 (d.n)),(.osl 4 (esD d)),(.bool false),(.int .i64 0)])]]) [(((0:Int)≤0)∧((0:Int)<(↑(1):Int))),(([V.agg [V.int .i64 d.kind,V.str d.text,V.int .i64 d.n,V.osl 4 (esD d),V.bool false,V.int .i64 0]]≠[])∧((1≤(1099511627776:Nat))∧(1*72≤(1099511627776:Nat))))] (.cons (by simp) (.cons (by simp) .nil)) ?_
 refine Dl.done 14 rfl ?_
 refine Wc.w [(4,(.int .i64 (-1)))] [(i64r ((-1:Int)))] (.cons (by omega) .nil) ?_
 refine Wc.unroll (Wc.seq (Wc.seq (Wc.wn0 [(0,(.ptr 2 0 0)),(1,(.gsl 6 [(.agg [(.int .i64 (d.kind)),(.str (d.text)),(.int .i64 (d.n)),(.osl 4 (esD d)),(.bool false),(.int .i64 0)])] (some 1))),(4,(.int .i64 (-1))),(9,(.bool false))] (hp [.row 0 26 4 0 (some 1) [(.agg [(.int .i64 (d.kind)),(.str (d.text)),(.int .i64 (d.n)),(.osl 4 (esD d))])],.row 0 51 3 0 (some 1) [(.agg [.nilp,.nils,(.int .i64 0)])],.row 0 54 1 0 (some 1) [(.agg [(.sl 3 0 0 1 none)])],.row 0 57 6 0 none [(.agg [(.int .i64 (d.kind)),(.str (d.text)),(.int .i64 (d.n)),(.osl 4 (esD d)),(.bool false),(.int .i64 0)])]]) ?_)))
 refine Wc.cf (Wc.exit (z8.here ?_))
 refine retX.mk (.tup []) ⟨rfl,rfl⟩ (by kernel_rfl) ?_
 refine q60.mk [0,1,2,4,5,6,7] [(0,(.agg [(.int .i64 (d.kind)),(.str (d.text)),(.int .i64 (d.n)),(.osl 4 (esD d))])),(1,(.int .i64 (wd))),(2,(.ptr 0 0 0)),(4,(.str [])),(5,(.int .i64 (max 0 (min wd 10000)))),(6,(.ptr 1 0 0)),(7,(.ptr 2 0 0))] (by kernel_rfl) ?_
 refine Wl.dn 4 (Wc.seq (Wc.seq (Wc.enter (Wl.callI (b:=(base 15 99)) (h1:=(hp [.row 0 26 4 0 (some 1) [(.agg [(.int .i64 (d.kind)),(.str (d.text)),(.int .i64 (d.n)),(.osl 4 (esD d))])],.row 0 51 3 0 (some 1) [(.agg [.nilp,.nils,(.int .i64 0)])],.row 0 54 1 0 (some 1) [(.agg [(.sl 3 0 0 1 none)])],.row 0 57 6 0 none [(.agg [(.int .i64 (d.kind)),(.str (d.text)),(.int .i64 (d.n)),(.osl 4 (esD d)),(.bool false),(.int .i64 0)])]])) (args:=[(.ptr 2 0 0)]) (d:=(some 21)) (fn:=Go.Proofs.Tryd.f31) 0 Go.Proofs.Tryd.func31 rfl (by kernel_rfl) (by kernel_rfl) ?_))))
 refine Wc.seq (Wc.wn0 [(0,(.ptr 2 0 0)),(2,(.ptr 4 0 0)),(3,(.bool false))] (hp [.row 0 26 4 0 (some 1) [(.agg [(.int .i64 (d.kind)),(.str (d.text)),(.int .i64 (d.n)),(.osl 4 (esD d))])],.row 0 51 3 0 (some 1) [(.agg [.nilp,.nils,(.int .i64 0)])],.row 0 54 1 0 (some 1) [(.agg [(.sl 3 0 0 1 none)])],.row 0 57 6 0 none [(.agg [(.int .i64 (d.kind)),(.str (d.text)),(.int .i64 (d.n)),(.osl 4 (esD d)),(.bool false),(.int .i64 0)])],.row 0 57 6 0 (some 1) [(.agg [(.int .i64 0),(.str []),(.int .i64 0),.nils,(.bool false),(.int .i64 0)])]]) ?_)
 refine Wc.seq (Wc.seq (Wc.w0 [(9,(.bool false))] ?_))
 refine Wc.cf (Wc.skip (Wc.seq (Wc.drawn0 (by kernel_rfl) ?_)))
 refine Dl.bn 0 13 [] (hp [.row 0 26 4 0 (some 1) [(.agg [(.int .i64 (d.kind)),(.str (d.text)),(.int .i64 (d.n)),(.osl 4 (esD d))])],.row 0 51 3 0 (some 1) [(.agg [.nilp,.nils,(.int .i64 0)])],.row 0 54 1 0 (some 1) [(.agg [(.sl 3 0 0 1 none)])],.row 0 57 6 0 none [(.agg [(.int .i64 (d.kind)),(.str (d.text)),(.int .i64 (d.n)),(.osl 4 (esD d)),(.bool false),(.int .i64 0)])],.row 0 57 6 0 (some 1) [(.agg [(.int .i64 (d.kind)),(.str (d.text)),(.int .i64 (d.n)),(.osl 4 (esD d)),(.bool false),(.int .i64 0)])]]) [(i64r (0:Int)),(((0:Int)≤0)∧((0:Int)<1))] (.cons (by omega) (.cons (by omega) .nil)) ?_
 refine Dl.done 13 rfl ?_
 refine Wc.seq (Wc.drawn0 (by kernel_rfl) ?_)
 refine Dl.bn 0 15 [] (hp [.row 0 26 4 0 (some 1) [(.agg [(.int .i64 (d.kind)),(.str (d.text)),(.int .i64 (d.n)),(.osl 4 (esD d))])],.row 0 51 3 0 (some 1) [(.agg [.nilp,.nils,(.int .i64 0)])],.row 0 54 1 0 (some 1) [(.agg [(.sl 3 0 0 0 none)])],.row 0 57 6 0 none [(.agg [(.int .i64 (d.kind)),(.str (d.text)),(.int .i64 (d.n)),(.osl 4 (esD d)),(.bool false),(.int .i64 0)])],.row 0 57 6 0 (some 1) [(.agg [(.int .i64 (d.kind)),(.str (d.text)),(.int .i64 (d.n)),(.osl 4 (esD d)),(.bool false),(.int .i64 0)])]]) [(i64r (0:Int)),(((0:Int)≤0)∧((0:Int)≤1))] (.cons (by omega) (.cons (by omega) .nil)) ?_
 refine Dl.done 15 rfl ?_
 refine Wc.seq (Wc.w0 [(3,(.bool true))] ?_)
 refine Wc.ret ?_
 refine retX.mk (.tup [(.agg [(.int .i64 (d.kind)),(.str (d.text)),(.int .i64 (d.n)),(.osl 4 (esD d)),(.bool false),(.int .i64 0)]),(.bool true)]) ⟨rfl,rfl⟩ (by kernel_rfl) ?_
 refine q60.mk [0,1,2,4,5,6,7,21] [(0,(.agg [(.int .i64 (d.kind)),(.str (d.text)),(.int .i64 (d.n)),(.osl 4 (esD d))])),(1,(.int .i64 (wd))),(2,(.ptr 0 0 0)),(4,(.str [])),(5,(.int .i64 (max 0 (min wd 10000)))),(6,(.ptr 1 0 0)),(7,(.ptr 2 0 0)),(21,(.tup [(.agg [(.int .i64 (d.kind)),(.str (d.text)),(.int .i64 (d.n)),(.osl 4 (esD d)),(.bool false),(.int .i64 0)]),(.bool true)]))] (by kernel_rfl) ?_
 refine Wl.bn0 1 7 [(8,(.ptr 5 0 0)),(9,(.bool true))] (hp [.row 0 26 4 0 (some 1) [(.agg [(.int .i64 (d.kind)),(.str (d.text)),(.int .i64 (d.n)),(.osl 4 (esD d))])],.row 0 51 3 0 (some 1) [(.agg [.nilp,.nils,(.int .i64 0)])],.row 0 54 1 0 (some 1) [(.agg [(.sl 3 0 0 0 none)])],.row 0 57 6 0 none [(.agg [(.int .i64 (d.kind)),(.str (d.text)),(.int .i64 (d.n)),(.osl 4 (esD d)),(.bool false),(.int .i64 0)])],.row 0 57 6 0 (some 1) [(.agg [(.int .i64 (d.kind)),(.str (d.text)),(.int .i64 (d.n)),(.osl 4 (esD d)),(.bool false),(.int .i64 0)])],.row 0 57 6 0 (some 1) [(.agg [(.int .i64 (d.kind)),(.str (d.text)),(.int .i64 (d.n)),(.osl 4 (esD d)),(.bool false),(.int .i64 0)])]]) ?_
 refine Wl.dn 7 (Wc.block ?_)
 obtain ⟨w,hw⟩:∃ w,w=max 0 (min wd 10000):=⟨_,rfl⟩
 have hw2:0≤w∧w≤10000:=by omega
 rw [← hw]
 refine Wc.loopV (α:=LayA) (fun a=>xc3 w a.1.isSome) (fun a=>layH (curV a.1) a.2.1 a.2.2.1 a.2.2.2) (layI w (layS w [⟨d,false,0⟩] 0)) (fun a=>w8 (layT a)) (some ⟨d,false,0⟩,[],[],0) ?_ ?_ ?_
 ·change Vw _ _ _ ((base 15 99).on [(5,.int .i64 w),(6,.ptr 0 0 0),(7,.ptr 1 0 0),(8,.ptr 2 0 0),(9,.bool true)]) (hp [.row 0 51 3 0 (some 1) [.agg [.nilp,.nils,.int .i64 0]],.row 0 54 1 0 (some 1) [.sl 3 0 0 0 none],.row 0 57 6 0 (some 1) [encT ⟨d,false,0⟩],.row 0 57 6 0 none []])
  refine Vw.trans (Vw.row (ver:=0) (ty:=54) (sz:=1) (pub:=0) (cap:=some 1) (es:=[.agg [.sl 3 0 0 0 none]]) 2 [.sl 3 0 0 0 none] (by kernel_rfl) (Nat.zero_le _) (Nat.le_refl _) (zm4 j24)) ?_
  refine Vw.trans (Vw.row (ver:=0) (ty:=57) (sz:=6) (pub:=0) (cap:=none) (es:=[encT ⟨d,false,0⟩]) 3 [] (by kernel_rfl) (Nat.zero_le _) (Nat.zero_le _) (fun i e e' _ q=>by simp at q)) ?_
  exact Vw.gk [(1,false),(2,false),(5,false),(3,false)] [(0=0),(0=0),(0=0),(0=0)] (.cons (by omega) (.cons (by omega) (.cons (by omega) (.cons (by omega) .nil))))
 ·have h1:=q07 d
  refine ⟨⟨fun t ht=>?_,?_,?_,?_,rfl⟩,fun e=>by cases e⟩
  ·have ht:t∈[(⟨d,false,0⟩:Th)]:=ht
   rw [List.mem_singleton] at ht
   subst ht
   exact ⟨hr,by simpa using hpn⟩
  ·show sumT [(⟨d,false,0⟩:Th)]≤2000
   rw [j5,q93];simpa using hs
  ·show (0:Int)≤0∧(0:Int)+sumT [(⟨d,false,0⟩:Th)]≤3000
   rw [j5,q93];simp;omega
  show 0+400*sumT [(⟨d,false,0⟩:Th)]≤1000000
  rw [j5,q93];simp;omega
 rintro ⟨cur,r,out,col⟩ ⟨hQ,hN⟩
 cases cur with
 | none =>
  have hr0:r=[]:=hN rfl
  subst hr0
  have hall:out=layS w [⟨d,false,0⟩] 0:=by
   have:=hQ.all
   change out++layS w [] col=_ at this
   rw [layS] at this;simpa using this
  have hol:out.length≤1000000:=by have:=hQ.hout;simp only at this;omega
  cases out with
  | nil =>
   change Wc Tryd.prog EU _ ((base 15 99).on [(5,.int .i64 w),(6,.ptr 0 0 0),(7,.ptr 1 0 0),(8,.ptr 2 0 0),(9,.bool false)]) (hp [.row 0 51 3 0 (some 1) [.agg [.nilp,.nils,.int .i64 col]],.row 0 54 1 0 (some 1) [.sl 3 0 0 0 none],.row 0 57 6 0 (some 1) [curV none],.row 0 57 6 0 none []]) _ _ _
   have cs:=xw0 (h:=hp [.row 0 51 3 0 (some 1) [.agg [.nilp,.nils,.int .i64 col]],.row 0 54 1 0 (some 1) [.sl 3 0 0 0 none],.row 0 57 6 0 (some 1) [curV none],.row 0 57 6 0 none []]) (r:=0) (by kernel_rfl)
   refine Wc.seq (Wc.seq (Wc.wn0 [(5,(.int .i64 (w))),(6,(.ptr 0 0 0)),(7,(.ptr 1 0 0)),(8,(.ptr 2 0 0)),(9,(.bool false)),(24,(.bool false))] (hp [.row 0 51 3 0 (some 1) [(.agg [.nilp,.nils,(.int .i64 (col))])],.row 0 54 1 0 (some 1) [(.sl 3 0 0 0 none)],.row 0 57 6 0 (some 1) [(.agg [(.int .i64 0),(.str []),(.int .i64 0),.nils,(.bool false),(.int .i64 0)])],.row 0 57 6 0 none []]) ?_))
   refine Wc.cf (Wc.exit (z8.here (Wc.seq (Wc.enter (Wl.b0 0 1 [(97,(.ptr 0 0 0))] ?_)))))
   refine Wl.callI (b:=(base 15 99)) (h1:=(hp [.row 0 51 3 0 (some 1) [(.agg [.nilp,.nils,(.int .i64 (col))])],.row 0 54 1 0 (some 1) [(.sl 3 0 0 0 none)],.row 0 57 6 0 (some 1) [(.agg [(.int .i64 0),(.str []),(.int .i64 0),.nils,(.bool false),(.int .i64 0)])],.row 0 57 6 0 none []])) (args:=[(.ptr 0 0 0)]) (d:=(some 98)) (fn:=Go.Proofs.Tryd.f37) 1 Go.Proofs.Tryd.func37 rfl (by kernel_rfl) (by kernel_rfl) ?_
   refine Wc.seq (Wc.wn0 [(0,(.ptr 0 0 0)),(2,(.str []))] (hp [.row 0 51 3 0 (some 1) [(.agg [.nilp,.nils,(.int .i64 (col))])],.row 0 54 1 0 (some 1) [(.sl 3 0 0 0 none)],.row 0 57 6 0 (some 1) [(.agg [(.int .i64 0),(.str []),(.int .i64 0),.nils,(.bool false),(.int .i64 0)])],.row 0 57 6 0 none []]) ?_)
   refine Wc.seq (Wc.drawn0 (by kernel_rfl) ?_)
   refine Dl.b0 0 12 [] ?_
   refine Dl.done 12 rfl ?_
   refine Wc.ret ?_
   refine retX.mk (.str []) ⟨rfl,rfl⟩ (by kernel_rfl) ?_
   refine q60.mk [5,6,7,8,9,24,98] [(5,(.int .i64 (w))),(6,(.ptr 0 0 0)),(7,(.ptr 1 0 0)),(8,(.ptr 2 0 0)),(9,(.bool false)),(24,(.bool false)),(98,(.str []))] (by kernel_rfl) ?_
   refine Wl.bn0 2 3 [(4,(.str []))] (hp [.row 0 51 3 0 (some 1) [(.agg [.nilp,.nils,(.int .i64 (col))])],.row 0 54 1 0 (some 1) [(.sl 3 0 0 0 none)],.row 0 57 6 0 (some 1) [(.agg [(.int .i64 0),(.str []),(.int .i64 0),.nils,(.bool false),(.int .i64 0)])],.row 0 57 6 0 none []]) ?_
   refine Wl.dn 3 (Wc.ret ?_)
   refine retX.mk (.str []) ⟨rfl,rfl⟩ (by kernel_rfl) ?_
   rw [← hall];rfl
  | cons c l =>
   let v1:Obj:=.row 0 54 1 0 (some 1) [.sl 3 0 0 0 none]
   let v2:Obj:=.row 0 57 6 0 (some 1) [curV none]
   change Wc Tryd.prog EU _ ((base 15 99).on [(5,.int .i64 w),(6,.ptr 0 0 0),(7,.ptr 1 0 0),(8,.ptr 2 0 0),(9,.bool false)]) (hp [.row 0 51 3 0 (some 1) [.agg [.ptr 0 0 0,.sl 4 0 0 (c::l).length none,.int .i64 col]],v1,v2,.row 0 57 6 0 none [],.row 0 5 1 0 none ((c::l).map bV)]) _ _ _
   have hne:c::l≠[]:=by simp
   generalize c::l=o at *
   have cs:=xw3 (h:=(hp [.row 0 51 3 0 (some 1) [.agg [.ptr 0 0 0,.sl 4 0 0 o.length none,.int .i64 col]],.row 0 54 1 0 (some 1) [.sl 3 0 0 0 none],.row 0 57 6 0 (some 1) [curV none],.row 0 57 6 0 none [],.row 0 5 1 0 none (o.map bV)])) (r:=0) (rb:=4) (ver:=0) (s:=o) (by kernel_rfl) hne (by kernel_rfl) (by omega)
   change Cs _ _ _ _ _ _ (hp [.row 0 51 3 0 (some 1) [.agg [.ptr 0 0 0,.sl 4 0 0 o.length none,.int .i64 col]],.row 0 54 1 0 (some 1) [.sl 3 0 0 0 none],.row 0 57 6 0 (some 1) [curV none],.row 0 57 6 0 none [],.row 0 5 1 (Nat.max 0 o.length) none (o.map bV)]) at cs
   refine Wc.seq (Wc.seq (Wc.wn0 [(5,(.int .i64 (w))),(6,(.ptr 0 0 0)),(7,(.ptr 1 0 0)),(8,(.ptr 2 0 0)),(9,(.bool false)),(24,(.bool false))] (hp [.row 0 51 3 0 (some 1) [(.agg [(.ptr 0 0 0),(.sl 4 0 0 (List.length o) none),(.int .i64 (col))])],.row 0 54 1 0 (some 1) [(.sl 3 0 0 0 none)],.row 0 57 6 0 (some 1) [(.agg [(.int .i64 0),(.str []),(.int .i64 0),.nils,(.bool false),(.int .i64 0)])],.row 0 57 6 0 none [],.row 0 5 1 0 none (List.map bV o)]) ?_))
   refine Wc.cf (Wc.exit (z8.here (Wc.seq (Wc.enter (Wl.b0 0 1 [(97,(.ptr 0 0 0))] ?_)))))
   refine Wl.s 1 [(98,(.str o))] (@cs) ?_
   refine Wl.b0 2 3 [(4,(.str o))] ?_
   refine Wl.dn 3 (Wc.ret ?_)
   refine retX.mk (.str o) ⟨rfl,rfl⟩ (by kernel_rfl) ?_
   rw [← hall];rfl
 | some t =>
  have ht:okL t:=hQ.ok t (by simp [layT])
  have hrk:∀ u,u∈r→okL u:=fun u hu=>hQ.ok u (by simp [layT,hu])
  have hsum:szD t.d+sumT r≤2000:=by have:=hQ.sum;change sumT (t::r)≤2000 at this;rwa [j5] at this
  have hcol:0≤col∧col+(szD t.d+sumT r:Nat)≤3000:=by have:=hQ.hcol;change 0≤col∧col+(sumT (t::r):Nat)≤3000 at this;rwa [j5] at this
  have hout:out.length+400*(szD t.d+sumT r)≤1000000:=by have:=hQ.hout;change out.length+400*sumT (t::r)≤1000000 at this;rwa [j5] at this
  have hall:out++layS w (t::r) col=layS w [⟨d,false,0⟩] 0:=hQ.all
  have hrl:=qe6 r
  have hQ:LayQ w (layS w [⟨d,false,0⟩] 0) (t::r) out col:=hQ
  obtain ⟨R,hR⟩:∃ R,R=layS w [⟨d,false,0⟩] 0:=⟨_,rfl⟩
  rw [← hR] at hQ hall ⊢
  obtain ⟨h0,hh0⟩:∃ h0,h0=layH (encT t) r out col:=⟨_,rfl⟩
  change Wc Tryd.prog EU _ ((base 15 99).on [(5,.int .i64 w),(6,.ptr 0 0 0),(7,.ptr 1 0 0),(8,.ptr 2 0 0),(9,.bool true)]) (layH (encT t) r out col) _ _ _
  rw [← hh0]
  refine Wc.seq (Wc.seq (Wc.wn0 [(5,(.int .i64 (w))),(6,(.ptr 0 0 0)),(7,(.ptr 1 0 0)),(8,(.ptr 2 0 0)),(9,(.bool true)),(24,(.bool true))] h0 ?_))
  refine Wc.ct (Wc.skip ?_)
  refine Wc.seqEx (β:=List Th×List UInt8×Int) (fun _=>(base 15 99).on [(5,.int .i64 w),(6,.ptr 0 0 0),(7,.ptr 1 0 0),(8,.ptr 2 0 0)]) (fun m=>layH (encT t) m.1 m.2.1 m.2.2) (fun m=>LayQ w R m.1 m.2.1 m.2.2∧w8 m.1<w8 (t::r)) ?_ ?_
  ·change Wc Tryd.prog EU _ _ h0 (LayE w R t (w8 (t::r))) _ 0
   have hrt:=y9 t r
   have hrl2:r.length≤1000000:=by omega
   have hrr:r.length=r.reverse.length:=by simp
   have htl:=y3 t.d
   have htk:=qc3 t.d
   have htx:t.d.kind=1→t.d.text≠[]:=fun q=>by
    have:=ht.1
    rw [j7] at this
    exact this.2.2.1.2 q
   have hnb:-1000000000≤t.n+t.d.n∧t.n+t.d.n≤1000000000:=ql5 (qy3 ht (by omega))
   have hnm:max t.n 0≤320:=by have:=ht.2;omega
   have hbl:(j2 (Int.toNat (max t.n 0))).length≤320:=by rw [q37];omega
   have hkl1:(z6 t t.flat).length≤100000:=by rw [qb3];omega
   have hkl2:(z6 t true).length≤100000:=by rw [qb3];omega
   obtain ⟨e,hed⟩:∃ e,e=endS t.n:=⟨_,rfl⟩
   have hel:e.length≤321:=by rw [hed];unfold endS;rw [List.length_cons,q37];omega
   have hene:e≠[]:=by rw [hed];unfold endS;simp
   have he:[10]++j2 (Int.toNat (max t.n 0))=e:=by rw [hed];unfold endS;rw [show (max t.n 0).toNat=t.n.toNat by omega];rfl
   cases out with
   | nil =>
    rw [show h0=(hp [.row 0 51 3 0 (some 1) [.agg [.nilp,.nils,.int .i64 col]],.row 0 54 1 0 (some 1) [.sl 3 0 0 r.length none],.row 0 57 6 0 (some 1) [encT t],.row 0 57 6 0 none (r.reverse.map encT)]) from hh0]
    refine Wc.block (Wc.seq ?_)
    let v3:V:=(.agg [.nilp,.nils,(.int .i64 (col))])
    let v4:Obj:=.row 0 51 3 0 (some 1) [v3]
    let v5:V:=(.sl 3 0 0 (List.length r) none)
    let v6:Obj:=.row 0 54 1 0 (some 1) [v5]
    let v7:Obj:=.row 0 57 6 0 (some 1) [(encT t)]
    let v8:Obj:=.row 0 57 6 0 none (List.map encT (List.reverse r))
    let v9:Heap:=(hp [v4,v6,v7,v8])
    refine Wc.wn0 [(5,(.int .i64 (w))),(6,(.ptr 0 0 0)),(7,(.ptr 1 0 0)),(8,(.ptr 2 0 0)),(9,(.bool true)),(24,(.bool true)),(31,(.int .i64 (t.d.kind)))] v9 ?_
    refine Wc.block (Wc.seq (Wc.w0 [(37,(.bool (decide (t.d.kind=1))))] ?_))
    refine Wc.cq (p:=t.d.kind=1) (fun c1=>?_) (fun c1=>?_)
    ·refine Wc.weak (s':=(base 15 99).on [(5,.int .i64 w),(6,.ptr 0 0 0),(7,.ptr 1 0 0),(8,.ptr 2 0 0)]) (Le.on [5,6,7,8] (by kernel_rfl)) ?_
     have hne:=htx c1
     refine Wc.enter (Wl.b0 0 3 [(5,(.int .i64 (w))),(41,(.str (t.d.text)))] ?_)
     refine Wl.s 3 [] (@Go.AM.cSayN (Obj.row 0 54 1 0 (some 1) [V.sl 3 0 0 (List.length r) none]) (Obj.row 0 57 6 0 (some 1) [encT t]) (Obj.row 0 57 6 0 none (List.map encT (List.reverse r))) (col) (t.d.text) hne (by omega) (by omega)) ?_
     refine Wl.dn 4 ?_
     refine q25 (L:=r) (o:=t.d.text) (c:=colS t.d.text col) (es:=r.reverse.map encT) (nL:=r.length) (bs:=t.d.text.map bV) (nO:=t.d.text.length) ?_ rfl rfl hne rfl rfl (by have:=hQ.text c1;rwa [List.nil_append] at this) hrt
     exact Vw.gk [(0,false),(1,false),(2,false),(3,true),(4,true)] [(0=0),(0=0),(0=0),(∀ (e:V),e∈List.map encT (List.reverse r)→x2 (x4 3) (V.cells e)=true),(∀ (e:V),e∈List.map bV t.d.text→x2 (x4 3) (V.cells e)=true),(0=0),(0=0),(0=0)] (.cons (by omega) (.cons (by omega) (.cons (by omega) (.cons (by exact x3 (fun _=>rfl) _) (.cons (by exact x3 (fun _=>rfl) _) (.cons (by omega) (.cons (by omega) (.cons (by omega) .nil))))))))
    refine Wc.seq (Wc.seq ?_)
    let v10:V:=(.bool (decide (t.d.kind=2)))
    refine Wc.w0 [(43,v10)] ?_
    refine Wc.cq (p:=t.d.kind=2) (fun c2=>?_) (fun c2=>?_)
    ·refine Wc.skip ?_
     refine Wc.cq (p:=t.d.kind=2) (fun c3=>?_) (fun c3=>absurd (show t.d.kind=2 from c2) c3)
     refine Wc.block (Wc.seq (Wc.enter (Wl.b0 0 4 [(51,(.bool (!t.flat)))] ?_)))
     refine Wl.split (p:=(t.flat)=true) (fun c4=>?_) (fun c4=>?_)
     ·refine Wl.k 51 (.bool (!t.flat)) (.bool false) (by have e:=c4;simp only [e] <;> rfl) ?_
      refine Wl.b0 4 10 [(47,(.bool (decide (t.d.kind=4))))] ?_
      refine Wl.dn 10 ?_
      refine Wc.cq (p:=t.d.kind=4) (fun c5=>absurd c5 (show ¬ (t.d.kind=4) from (by omega))) (fun c5=>?_)
      refine Wc.seq (Wc.w0 [(63,v10)] ?_)
      refine Wc.cq (p:=t.d.kind=2) (fun c6=>?_) (fun c6=>absurd (show t.d.kind=2 from c2) c6)
      refine Wc.enter (Wl.s 0 [] (@Go.AM.cSayN (Obj.row 0 54 1 0 (some 1) [V.sl 3 0 0 (List.length r) none]) (Obj.row 0 57 6 0 (some 1) [encT t]) (Obj.row 0 57 6 0 none (List.map encT (List.reverse r))) (col) ([32]) (by simp) (by simp) (by omega)) ?_)
      refine Wl.dn 1 ?_
      refine q25 (L:=r) (o:=[32]) (c:=colS [32] col) (es:=r.reverse.map encT) (nL:=r.length) (bs:=[32].map bV) (nO:=1) ?_ rfl rfl (by simp) rfl rfl (hQ.blank c2 c4) hrt
      exact Vw.gk [(0,false),(1,false),(2,false),(3,true),(4,false)] [(0=0),(0=0),(0=0),(∀ (e:V),e∈List.map encT (List.reverse r)→x2 (x4 3) (V.cells e)=true),(0=0),(0=0),(0=0)] (.cons (by omega) (.cons (by omega) (.cons (by omega) (.cons (by exact x3 (fun _=>rfl) _) (.cons (by omega) (.cons (by omega) (.cons (by omega) .nil)))))))
     refine Wl.k 51 (.bool (!t.flat)) (.bool true) (by have e:=Bool.eq_false_iff.2 c4;simp only [e] <;> rfl) ?_
     refine Wl.b0 4 10 [(47,(.bool true))] ?_
     refine Wl.dn 10 (Wc.ct (Wc.weak (s':=(base 15 99).on [(5,.int .i64 w),(6,.ptr 0 0 0),(7,.ptr 1 0 0),(8,.ptr 2 0 0)]) (Le.on [5,6,7,8] (by kernel_rfl)) ?_))
     refine Wc.enter (Wl.bn0 0 3 [(59,(.int .i64 (max t.n 0)))] (hp [.row 0 51 3 0 (some 1) [.agg [.nilp,.nils,.int .i64 col]],.row 0 54 1 0 (some 1) [.sl 3 0 0 r.length none],.row 0 57 6 0 (some 1) [encT t],.row 0 57 6 0 none (r.reverse.map encT)]) ?_)
     refine Wl.c 3 [(60,(.str (j2 (Int.toNat (max t.n 0)))))] (@Go.AM.cRepeat (max t.n 0) (by omega) hnm) ?_
     let v11:V:=(.str ([10]++j2 (Int.toNat (max t.n 0))))
     refine Wl.bs 4 5 [(61,v11)] [(1:Nat)+(j2 (Int.toNat (max t.n 0))).length≤(1099511627776:Nat)] (.cons (by omega) .nil) ?_
     refine Wl.k 61 (.str ([10]++j2 (Int.toNat (max t.n 0)))) (.str e) (by rw [he]) ?_
     refine Wl.s 5 [(5,(.int .i64 (w)))] (@Go.AM.cSayN (Obj.row 0 54 1 0 (some 1) [V.sl 3 0 0 (List.length r) none]) (Obj.row 0 57 6 0 (some 1) [encT t]) (Obj.row 0 57 6 0 none (List.map encT (List.reverse r))) (col) (e) hene (by omega) (by omega)) ?_
     refine Wl.dn 6 ?_
     refine q25 (L:=r) (o:=e) (c:=colS e col) (es:=r.reverse.map encT) (nL:=r.length) (bs:=e.map bV) (nO:=e.length) ?_ rfl rfl hene rfl rfl (by have:=hQ.line (.inl c2) (.inl (Bool.eq_false_iff.2 c4));rwa [← hed,List.nil_append] at this) hrt
     exact Vw.gk [(0,false),(1,false),(2,false),(3,true),(4,true)] [(0=0),(0=0),(0=0),(∀ (e:V),e∈List.map encT (List.reverse r)→x2 (x4 3) (V.cells e)=true),(∀ (e_1:V),e_1∈List.map bV e→x2 (x4 (3:Nat)) (V.cells e_1)=true),(0=0),(0=0),(0=0)] (.cons (by omega) (.cons (by omega) (.cons (by omega) (.cons (by exact x3 (fun _=>rfl) _) (.cons (by exact x3 (fun _=>rfl) _) (.cons (by omega) (.cons (by omega) (.cons (by omega) .nil))))))))
    refine Wc.seq (Wc.w0 [(43,(.bool (decide (t.d.kind=3))))] ?_)
    refine Wc.cq (p:=t.d.kind=3) (fun c7=>?_) (fun c7=>?_)
    ·refine Wc.skip ?_
     refine Wc.cq (p:=t.d.kind=3) (fun c8=>?_) (fun c8=>absurd (show t.d.kind=3 from c7) c8)
     refine Wc.block (Wc.seq (Wc.enter (Wl.b0 0 4 [(51,(.bool (!t.flat)))] ?_)))
     refine Wl.split (p:=(t.flat)=true) (fun c9=>?_) (fun c9=>?_)
     ·refine Wl.k 51 (.bool (!t.flat)) (.bool false) (by have e:=c9;simp only [e] <;> rfl) ?_
      refine Wl.b0 4 10 [(47,(.bool (decide (t.d.kind=4))))] ?_
      refine Wl.dn 10 ?_
      refine Wc.cq (p:=t.d.kind=4) (fun c10=>absurd c10 (show ¬ (t.d.kind=4) from (by omega))) (fun c10=>?_)
      refine Wc.seq (Wc.w0 [(63,v10)] ?_)
      refine Wc.cq (p:=t.d.kind=2) (fun c11=>absurd c11 (show ¬ (t.d.kind=2) from c2)) (fun c11=>?_)
      refine Wc.skip ?_
      refine qx1 (L:=r) (c:=col) (es:=r.reverse.map encT) (nL:=r.length) ?_ rfl rfl (hQ.soft c7 c9) hrt
      exact Vw.gk [(0,false),(1,false),(2,false),(3,true)] [(0=0),(∀ (e:V),e∈List.map encT (List.reverse r)→x2 (x4 3) (V.cells e)=true),(0=0),(0=0),(0=0)] (.cons (by omega) (.cons (by exact x3 (fun _=>rfl) _) (.cons (by omega) (.cons (by omega) (.cons (by omega) .nil)))))
     refine Wl.k 51 (.bool (!t.flat)) (.bool true) (by have e:=Bool.eq_false_iff.2 c9;simp only [e] <;> rfl) ?_
     refine Wl.b0 4 10 [(47,(.bool true))] ?_
     refine Wl.dn 10 (Wc.ct (Wc.weak (s':=(base 15 99).on [(5,.int .i64 w),(6,.ptr 0 0 0),(7,.ptr 1 0 0),(8,.ptr 2 0 0)]) (Le.on [5,6,7,8] (by kernel_rfl)) ?_))
     refine Wc.enter (Wl.bn0 0 3 [(59,(.int .i64 (max t.n 0)))] (hp [.row 0 51 3 0 (some 1) [.agg [.nilp,.nils,.int .i64 col]],.row 0 54 1 0 (some 1) [.sl 3 0 0 r.length none],.row 0 57 6 0 (some 1) [encT t],.row 0 57 6 0 none (r.reverse.map encT)]) ?_)
     refine Wl.c 3 [(60,(.str (j2 (Int.toNat (max t.n 0)))))] (@Go.AM.cRepeat (max t.n 0) (by omega) hnm) ?_
     let v12:V:=(.str ([10]++j2 (Int.toNat (max t.n 0))))
     refine Wl.bs 4 5 [(61,v12)] [(1:Nat)+(j2 (Int.toNat (max t.n 0))).length≤(1099511627776:Nat)] (.cons (by omega) .nil) ?_
     refine Wl.k 61 (.str ([10]++j2 (Int.toNat (max t.n 0)))) (.str e) (by rw [he]) ?_
     refine Wl.s 5 [(5,(.int .i64 (w)))] (@Go.AM.cSayN (Obj.row 0 54 1 0 (some 1) [V.sl 3 0 0 (List.length r) none]) (Obj.row 0 57 6 0 (some 1) [encT t]) (Obj.row 0 57 6 0 none (List.map encT (List.reverse r))) (col) (e) hene (by omega) (by omega)) ?_
     refine Wl.dn 6 ?_
     refine q25 (L:=r) (o:=e) (c:=colS e col) (es:=r.reverse.map encT) (nL:=r.length) (bs:=e.map bV) (nO:=e.length) ?_ rfl rfl hene rfl rfl (by have:=hQ.line (.inr (.inl c7)) (.inl (Bool.eq_false_iff.2 c9));rwa [← hed,List.nil_append] at this) hrt
     exact Vw.gk [(0,false),(1,false),(2,false),(3,true),(4,true)] [(0=0),(0=0),(0=0),(∀ (e:V),e∈List.map encT (List.reverse r)→x2 (x4 3) (V.cells e)=true),(∀ (e_1:V),e_1∈List.map bV e→x2 (x4 (3:Nat)) (V.cells e_1)=true),(0=0),(0=0),(0=0)] (.cons (by omega) (.cons (by omega) (.cons (by omega) (.cons (by exact x3 (fun _=>rfl) _) (.cons (by exact x3 (fun _=>rfl) _) (.cons (by omega) (.cons (by omega) (.cons (by omega) .nil))))))))
    refine Wc.w0 [(43,(.bool (decide (t.d.kind=4))))] ?_
    refine Wc.cq (p:=t.d.kind=4) (fun c12=>?_) (fun c12=>?_)
    ·refine Wc.block (Wc.seq (Wc.enter (Wl.b0 0 4 [(51,(.bool (!t.flat)))] ?_)))
     refine Wl.split (p:=(t.flat)=true) (fun c13=>?_) (fun c13=>?_)
     ·refine Wl.k 51 (.bool (!t.flat)) (.bool false) (by have e:=c13;simp only [e] <;> rfl) ?_
      refine Wl.b0 4 10 [(47,(.bool (decide (t.d.kind=4))))] ?_
      refine Wl.dn 10 ?_
      refine Wc.cq (p:=t.d.kind=4) (fun c14=>?_) (fun c14=>absurd (show t.d.kind=4 from c12) c14)
      refine Wc.weak (s':=(base 15 99).on [(5,.int .i64 w),(6,.ptr 0 0 0),(7,.ptr 1 0 0),(8,.ptr 2 0 0)]) (Le.on [5,6,7,8] (by kernel_rfl)) ?_
      refine Wc.enter (Wl.bn0 0 3 [(59,(.int .i64 (max t.n 0)))] (hp [.row 0 51 3 0 (some 1) [.agg [.nilp,.nils,.int .i64 col]],.row 0 54 1 0 (some 1) [.sl 3 0 0 r.length none],.row 0 57 6 0 (some 1) [encT t],.row 0 57 6 0 none (r.reverse.map encT)]) ?_)
      refine Wl.c 3 [(60,(.str (j2 (Int.toNat (max t.n 0)))))] (@Go.AM.cRepeat (max t.n 0) (by omega) hnm) ?_
      let v13:V:=(.str ([10]++j2 (Int.toNat (max t.n 0))))
      refine Wl.bs 4 5 [(61,v13)] [(1:Nat)+(j2 (Int.toNat (max t.n 0))).length≤(1099511627776:Nat)] (.cons (by omega) .nil) ?_
      refine Wl.k 61 (.str ([10]++j2 (Int.toNat (max t.n 0)))) (.str e) (by rw [he]) ?_
      refine Wl.s 5 [(5,(.int .i64 (w)))] (@Go.AM.cSayN (Obj.row 0 54 1 0 (some 1) [V.sl 3 0 0 (List.length r) none]) (Obj.row 0 57 6 0 (some 1) [encT t]) (Obj.row 0 57 6 0 none (List.map encT (List.reverse r))) (col) (e) hene (by omega) (by omega)) ?_
      refine Wl.dn 6 ?_
      refine q25 (L:=r) (o:=e) (c:=colS e col) (es:=r.reverse.map encT) (nL:=r.length) (bs:=e.map bV) (nO:=e.length) ?_ rfl rfl hene rfl rfl (by have:=hQ.line (.inr (.inr c12)) (.inr c12);rwa [← hed,List.nil_append] at this) hrt
      exact Vw.gk [(0,false),(1,false),(2,false),(3,true),(4,true)] [(0=0),(0=0),(0=0),(∀ (e:V),e∈List.map encT (List.reverse r)→x2 (x4 3) (V.cells e)=true),(∀ (e_1:V),e_1∈List.map bV e→x2 (x4 (3:Nat)) (V.cells e_1)=true),(0=0),(0=0),(0=0)] (.cons (by omega) (.cons (by omega) (.cons (by omega) (.cons (by exact x3 (fun _=>rfl) _) (.cons (by exact x3 (fun _=>rfl) _) (.cons (by omega) (.cons (by omega) (.cons (by omega) .nil))))))))
     refine Wl.k 51 (.bool (!t.flat)) (.bool true) (by have e:=Bool.eq_false_iff.2 c13;simp only [e] <;> rfl) ?_
     refine Wl.b0 4 10 [(47,(.bool true))] ?_
     refine Wl.dn 10 (Wc.ct (Wc.weak (s':=(base 15 99).on [(5,.int .i64 w),(6,.ptr 0 0 0),(7,.ptr 1 0 0),(8,.ptr 2 0 0)]) (Le.on [5,6,7,8] (by kernel_rfl)) ?_))
     refine Wc.enter (Wl.bn0 0 3 [(59,(.int .i64 (max t.n 0)))] (hp [.row 0 51 3 0 (some 1) [.agg [.nilp,.nils,.int .i64 col]],.row 0 54 1 0 (some 1) [.sl 3 0 0 r.length none],.row 0 57 6 0 (some 1) [encT t],.row 0 57 6 0 none (r.reverse.map encT)]) ?_)
     refine Wl.c 3 [(60,(.str (j2 (Int.toNat (max t.n 0)))))] (@Go.AM.cRepeat (max t.n 0) (by omega) hnm) ?_
     let v14:V:=(.str ([10]++j2 (Int.toNat (max t.n 0))))
     refine Wl.bs 4 5 [(61,v14)] [(1:Nat)+(j2 (Int.toNat (max t.n 0))).length≤(1099511627776:Nat)] (.cons (by omega) .nil) ?_
     refine Wl.k 61 (.str ([10]++j2 (Int.toNat (max t.n 0)))) (.str e) (by rw [he]) ?_
     refine Wl.s 5 [(5,(.int .i64 (w)))] (@Go.AM.cSayN (Obj.row 0 54 1 0 (some 1) [V.sl 3 0 0 (List.length r) none]) (Obj.row 0 57 6 0 (some 1) [encT t]) (Obj.row 0 57 6 0 none (List.map encT (List.reverse r))) (col) (e) hene (by omega) (by omega)) ?_
     refine Wl.dn 6 ?_
     refine q25 (L:=r) (o:=e) (c:=colS e col) (es:=r.reverse.map encT) (nL:=r.length) (bs:=e.map bV) (nO:=e.length) ?_ rfl rfl hene rfl rfl (by have:=hQ.line (.inr (.inr c12)) (.inr c12);rwa [← hed,List.nil_append] at this) hrt
     exact Vw.gk [(0,false),(1,false),(2,false),(3,true),(4,true)] [(0=0),(0=0),(0=0),(∀ (e:V),e∈List.map encT (List.reverse r)→x2 (x4 3) (V.cells e)=true),(∀ (e_1:V),e_1∈List.map bV e→x2 (x4 (3:Nat)) (V.cells e_1)=true),(0=0),(0=0),(0=0)] (.cons (by omega) (.cons (by omega) (.cons (by omega) (.cons (by exact x3 (fun _=>rfl) _) (.cons (by exact x3 (fun _=>rfl) _) (.cons (by omega) (.cons (by omega) (.cons (by omega) .nil))))))))
    refine Wc.seq (Wc.w0 [(69,(.bool (decide (t.d.kind=6))))] ?_)
    refine Wc.cq (p:=t.d.kind=6) (fun c15=>?_) (fun c15=>?_)
    ·refine Wc.seq ?_
     by_cases hh:k8 t.d=true
     ·have hfl:Cp Tryd.prog EU 35 [encD t.d] (.tup [.str [],.bool false]):=by
       have:=qh9 ht.1 (show szD t.d≤100000 by omega)
       rw [if_pos hh,hh] at this;exact this
      refine Wc.enter ?_
      let v15:V:=(.agg [(.int .i64 (t.d.kind)),(.str (t.d.text)),(.int .i64 (t.d.n)),(.osl 4 (esD t.d)),(.bool (t.flat)),(.int .i64 (t.n))])
      refine Wl.b0 0 1 [(71,v15)] ?_
      refine Wl.c 1 [(72,(.osl 6 (List.map encT (z6 t true))))] (@Go.AM.cKids (t) (true) (by omega) hnb) ?_
      refine Wl.b0 2 3 [(10,(.osl 6 (List.map encT (z6 t true))))] ?_
      refine Wl.dn 3 (Wc.seq (Wc.enter (Wl.b0 0 2 [(75,(.agg [(.int .i64 (t.d.kind)),(.str (t.d.text)),(.int .i64 (t.d.n)),(.osl 4 (esD t.d))]))] ?_)))
      refine Wl.c 2 [(76,(.tup [(.str []),(.bool false)]))] (@hfl) ?_
      refine Wl.b0 3 8 [(12,(.bool false))] ?_
      refine Wl.dn 8 (Wc.seq (Wc.w0 [(88,(.bool false))] ?_))
      refine Wc.cf (Wc.enter (Wl.b0 0 3 [(91,v15),(93,(.bool (t.flat)))] ?_))
      refine Wl.c 3 [(94,(.osl 6 (List.map encT (z6 t t.flat))))] (@Go.AM.cKids (t) (t.flat) (by omega) hnb) ?_
      refine Wl.s 4 [] (@Go.AM.cPush4 (Obj.row 0 51 3 0 (some 1) [V.agg [V.nilp,V.nils,V.int .i64 col]]) (Obj.row 0 57 6 0 (some 1) [encT t]) (List.reverse r) (List.length r) (z6 t t.flat) (hkl1) hrr hrl2) ?_
      refine Wl.dn 5 ?_
      refine qx1 (L:=z6 t t.flat++r) (c:=col) (es:=r.reverse.map encT++(z6 t t.flat).reverse.map encT) (nL:=r.length+(z6 t t.flat).length) ?_ (by rw [List.length_append];omega) (by simp) (hQ.push t.flat (qv9 c15 (by rw [hh];rfl))) (q02 t _ r)
      exact Vw.gk [(0,false),(1,false),(2,false),(3,true)] [(List.length (z6 t t.flat)=List.length (z6 t t.flat)),(∀ (e:V),e∈List.map encT (List.reverse r)++List.map encT (List.reverse (z6 t t.flat))→x2 (x4 3) (V.cells e)=true),(0=0),(0=0),(0=0)] (.cons (by omega) (.cons (by exact w6 (x3 (fun _=>rfl) _) (x3 (fun _=>rfl) _)) (.cons (by omega) (.cons (by omega) (.cons (by omega) .nil)))))
     have hfl:Cp Tryd.prog EU 35 [encD t.d] (.tup [.str (x8 t.d),.bool true]):=by
      have:=qh9 ht.1 (show szD t.d≤100000 by omega)
      rw [if_neg hh,Bool.eq_false_iff.2 hh] at this;exact this
     have hfits:∀ b,y1 w (z6 t true++r) col=b→Came Tryd.prog EU 36 [.osl 6 ((z6 t true).map encT),.sl 3 0 0 r.length none,.int .i64 col,.int .i64 w] (hp [.row 0 51 3 0 (some 1) [.agg [.nilp,.nils,.int .i64 col]],.row 0 54 1 0 (some 1) [.sl 3 0 0 r.length none],.row 0 57 6 0 (some 1) [encT t],.row 0 57 6 0 none (r.reverse.map encT)]) (.bool b) (hp [.row 0 51 3 0 (some 1) [.agg [.nilp,.nils,.int .i64 col]],.row 0 54 1 0 (some 1) [.sl 3 0 0 r.length none],.row 0 57 6 0 (some 1) [encT t],.row 0 57 6 0 none (r.reverse.map encT)]):=x81 (hp [.row 0 51 3 0 (some 1) [.agg [.nilp,.nils,.int .i64 col]],.row 0 54 1 0 (some 1) [.sl 3 0 0 r.length none],.row 0 57 6 0 (some 1) [encT t],.row 0 57 6 0 none (r.reverse.map encT)]) (fun u hu=>hQ.ok u (by simp [hu])) ht hsum hcol.1 (by omega) hw2 (by kernel_rfl)
     cases hf:y1 w (z6 t true++r) col with
     | true =>
      have hfits:=hfits true hf
      refine Wc.enter (Wl.b0 0 1 [(71,(.agg [(.int .i64 (t.d.kind)),(.str (t.d.text)),(.int .i64 (t.d.n)),(.osl 4 (esD t.d)),(.bool (t.flat)),(.int .i64 (t.n))]))] ?_)
      let v16:V:=(.osl 6 (List.map encT (z6 t true)))
      refine Wl.c 1 [(72,v16)] (@Go.AM.cKids (t) (true) (by omega) hnb) ?_
      refine Wl.b0 2 3 [(10,v16)] ?_
      refine Wl.dn 3 (Wc.seq (Wc.enter (Wl.b0 0 2 [(75,(.agg [(.int .i64 (t.d.kind)),(.str (t.d.text)),(.int .i64 (t.d.n)),(.osl 4 (esD t.d))]))] ?_)))
      refine Wl.c 2 [(76,(.tup [(.str (x8 t.d)),(.bool true)]))] (@hfl) ?_
      refine Wl.b0 3 8 [(12,(.bool true))] ?_
      refine Wl.dn 8 (Wc.seq (Wc.enter (Wl.b0 0 8 [(80,(.bool true)),(81,v16),(83,(.sl 3 0 0 (List.length r) none)),(85,(.int .i64 (col))),(86,(.int .i64 (w)))] ?_)))
      refine Wl.callC (b:=base 15 99) (h1:=(hp [.row 0 51 3 0 (some 1) [.agg [.nilp,.nils,.int .i64 col]],.row 0 54 1 0 (some 1) [.sl 3 0 0 r.length none],.row 0 57 6 0 (some 1) [encT t],.row 0 57 6 0 none (r.reverse.map encT)])) (h2:=(hp [.row 0 51 3 0 (some 1) [.agg [.nilp,.nils,.int .i64 col]],.row 0 54 1 0 (some 1) [.sl 3 0 0 r.length none],.row 0 57 6 0 (some 1) [encT t],.row 0 57 6 0 none (r.reverse.map encT)])) (v:=.bool true) (d:=some 87) 8 [5,6,7,8,10,80,87] [(5,.int .i64 w),(6,.ptr 0 0 0),(7,.ptr 1 0 0),(8,.ptr 2 0 0),(10,.osl 6 ((z6 t true).map encT)),(80,.bool true),(87,.bool true)] hfits (by kernel_rfl) (by kernel_rfl) ?_
      refine Wl.bn0 9 10 [(5,(.int .i64 (w))),(6,(.ptr 0 0 0)),(7,(.ptr 1 0 0)),(8,(.ptr 2 0 0)),(10,v16),(88,(.bool true))] (hp [.row 0 51 3 0 (some 1) [(.agg [.nilp,.nils,(.int .i64 (col))])],.row 0 54 1 0 (some 1) [(.sl 3 0 0 (List.length r) none)],.row 0 57 6 0 (some 1) [(encT t)],.row 0 57 6 0 none (List.map encT (List.reverse r))]) ?_
      refine Wl.dn 10 (Wc.ct (Wc.enter (Wl.b0 0 1 [(89,v16)] ?_)))
      refine Wl.s 1 [] (@Go.AM.cPush4 (Obj.row 0 51 3 0 (some 1) [V.agg [V.nilp,V.nils,V.int .i64 col]]) (Obj.row 0 57 6 0 (some 1) [encT t]) (List.reverse r) (List.length r) (z6 t true) hkl2 hrr hrl2) ?_
      refine Wl.dn 2 ?_
      refine qx1 (L:=z6 t true++r) (c:=col) (es:=r.reverse.map encT++(z6 t true).reverse.map encT) (nL:=r.length+(z6 t true).length) ?_ (by rw [List.length_append];omega) (by simp) (hQ.push true (zj8 c15 (by rw [hf,Bool.eq_false_iff.2 hh];rfl))) (q02 t _ r)
      exact Vw.gk [(0,false),(1,false),(2,false),(3,true)] [(List.length (z6 t true)=List.length (z6 t true)),(∀ (e:V),e∈List.map encT (List.reverse r)++List.map encT (List.reverse (z6 t true))→x2 (x4 3) (V.cells e)=true),(0=0),(0=0),(0=0)] (.cons (by omega) (.cons (by exact w6 (x3 (fun _=>rfl) _) (x3 (fun _=>rfl) _)) (.cons (by omega) (.cons (by omega) (.cons (by omega) .nil)))))
     | false =>
      have hfits:=hfits false hf
      refine Wc.enter ?_
      let v17:V:=(.agg [(.int .i64 (t.d.kind)),(.str (t.d.text)),(.int .i64 (t.d.n)),(.osl 4 (esD t.d)),(.bool (t.flat)),(.int .i64 (t.n))])
      refine Wl.b0 0 1 [(71,v17)] ?_
      let v18:V:=(.osl 6 (List.map encT (z6 t true)))
      refine Wl.c 1 [(72,v18)] (@Go.AM.cKids (t) (true) (by omega) hnb) ?_
      refine Wl.b0 2 3 [(10,v18)] ?_
      refine Wl.dn 3 (Wc.seq (Wc.enter (Wl.b0 0 2 [(75,(.agg [(.int .i64 (t.d.kind)),(.str (t.d.text)),(.int .i64 (t.d.n)),(.osl 4 (esD t.d))]))] ?_)))
      refine Wl.c 2 [(76,(.tup [(.str (x8 t.d)),(.bool true)]))] (@hfl) ?_
      refine Wl.b0 3 8 [(12,(.bool true))] ?_
      refine Wl.dn 8 (Wc.seq (Wc.enter (Wl.b0 0 8 [(80,(.bool true)),(81,v18),(83,(.sl 3 0 0 (List.length r) none)),(85,(.int .i64 (col))),(86,(.int .i64 (w)))] ?_)))
      refine Wl.callC (b:=base 15 99) (h1:=(hp [.row 0 51 3 0 (some 1) [.agg [.nilp,.nils,.int .i64 col]],.row 0 54 1 0 (some 1) [.sl 3 0 0 r.length none],.row 0 57 6 0 (some 1) [encT t],.row 0 57 6 0 none (r.reverse.map encT)])) (h2:=(hp [.row 0 51 3 0 (some 1) [.agg [.nilp,.nils,.int .i64 col]],.row 0 54 1 0 (some 1) [.sl 3 0 0 r.length none],.row 0 57 6 0 (some 1) [encT t],.row 0 57 6 0 none (r.reverse.map encT)])) (v:=.bool false) (d:=some 87) 8 [5,6,7,8,10,80,87] [(5,.int .i64 w),(6,.ptr 0 0 0),(7,.ptr 1 0 0),(8,.ptr 2 0 0),(10,.osl 6 ((z6 t true).map encT)),(80,.bool true),(87,.bool false)] hfits (by kernel_rfl) (by kernel_rfl) ?_
      refine Wl.bn0 9 10 [(5,(.int .i64 (w))),(6,(.ptr 0 0 0)),(7,(.ptr 1 0 0)),(8,(.ptr 2 0 0)),(10,v18),(88,(.bool false))] (hp [.row 0 51 3 0 (some 1) [(.agg [.nilp,.nils,(.int .i64 (col))])],.row 0 54 1 0 (some 1) [(.sl 3 0 0 (List.length r) none)],.row 0 57 6 0 (some 1) [(encT t)],.row 0 57 6 0 none (List.map encT (List.reverse r))]) ?_
      refine Wl.dn 10 (Wc.cf (Wc.enter (Wl.b0 0 3 [(91,v17),(93,(.bool (t.flat)))] ?_)))
      refine Wl.c 3 [(94,(.osl 6 (List.map encT (z6 t t.flat))))] (@Go.AM.cKids (t) (t.flat) (by omega) hnb) ?_
      refine Wl.s 4 [] (@Go.AM.cPush4 (Obj.row 0 51 3 0 (some 1) [V.agg [V.nilp,V.nils,V.int .i64 col]]) (Obj.row 0 57 6 0 (some 1) [encT t]) (List.reverse r) (List.length r) (z6 t t.flat) hkl1 hrr hrl2) ?_
      refine Wl.dn 5 ?_
      refine qx1 (L:=z6 t t.flat++r) (c:=col) (es:=r.reverse.map encT++(z6 t t.flat).reverse.map encT) (nL:=r.length+(z6 t t.flat).length) ?_ (by rw [List.length_append];omega) (by simp) (hQ.push t.flat (qv9 c15 (by rw [hf];simp))) (q02 t _ r)
      exact Vw.gk [(0,false),(1,false),(2,false),(3,true)] [(List.length (z6 t t.flat)=List.length (z6 t t.flat)),(∀ (e:V),e∈List.map encT (List.reverse r)++List.map encT (List.reverse (z6 t t.flat))→x2 (x4 3) (V.cells e)=true),(0=0),(0=0),(0=0)] (.cons (by omega) (.cons (by exact w6 (x3 (fun _=>rfl) _) (x3 (fun _=>rfl) _)) (.cons (by omega) (.cons (by omega) (.cons (by omega) .nil)))))
    refine Wc.weak (s':=(base 15 99).on [(5,.int .i64 w),(6,.ptr 0 0 0),(7,.ptr 1 0 0),(8,.ptr 2 0 0)]) (Le.on [5,6,7,8] (by kernel_rfl)) ?_
    refine Wc.enter (Wl.b0 0 3 [(5,(.int .i64 (w))),(32,(.agg [(.int .i64 (t.d.kind)),(.str (t.d.text)),(.int .i64 (t.d.n)),(.osl 4 (esD t.d)),(.bool (t.flat)),(.int .i64 (t.n))])),(34,(.bool (t.flat)))] ?_)
    refine Wl.c 3 [(35,(.osl 6 (List.map encT (z6 t t.flat))))] (@Go.AM.cKids (t) (t.flat) (by omega) hnb) ?_
    refine Wl.s 4 [] (@Go.AM.cPush4 (Obj.row 0 51 3 0 (some 1) [V.agg [V.nilp,V.nils,V.int .i64 col]]) (Obj.row 0 57 6 0 (some 1) [encT t]) (List.reverse r) (List.length r) (z6 t t.flat) (hkl1) hrr hrl2) ?_
    refine Wl.dn 5 ?_
    refine qx1 (L:=z6 t t.flat++r) (c:=col) (es:=r.reverse.map encT++(z6 t t.flat).reverse.map encT) (nL:=r.length+(z6 t t.flat).length) ?_ (by rw [List.length_append];omega) (by simp) (hQ.push t.flat (qk0 c1 (by omega) c15)) (q02 t _ r)
    exact Vw.gk [(0,false),(1,false),(2,false),(3,true)] [(List.length (z6 t t.flat)=List.length (z6 t t.flat)),(∀ (e:V),e∈List.map encT (List.reverse r)++List.map encT (List.reverse (z6 t t.flat))→x2 (x4 3) (V.cells e)=true),(0=0),(0=0),(0=0)] (.cons (by omega) (.cons (by exact w6 (x3 (fun _=>rfl) _) (x3 (fun _=>rfl) _)) (.cons (by omega) (.cons (by omega) (.cons (by omega) .nil)))))
   | cons c l =>
    have hne0:c::l≠[]:=by simp
    rw [show h0=(hp [.row 0 51 3 0 (some 1) [.agg [.ptr 0 0 0,.sl 4 0 0 (c::l).length none,.int .i64 col]],.row 0 54 1 0 (some 1) [.sl 3 0 0 r.length none],.row 0 57 6 0 (some 1) [encT t],.row 0 57 6 0 none (r.reverse.map encT),.row 0 5 1 0 none ((c::l).map bV)]) from hh0]
    generalize c::l=o at *
    refine Wc.block (Wc.seq ?_)
    let v19:V:=(.sl 4 0 0 (List.length o) none)
    let v20:V:=(.agg [(.ptr 0 0 0),v19,(.int .i64 (col))])
    let v21:Obj:=.row 0 51 3 0 (some 1) [v20]
    let v22:V:=(.sl 3 0 0 (List.length r) none)
    let v23:Obj:=.row 0 54 1 0 (some 1) [v22]
    let v24:Obj:=.row 0 57 6 0 (some 1) [(encT t)]
    let v25:Obj:=.row 0 57 6 0 none (List.map encT (List.reverse r))
    let v26:Obj:=.row 0 5 1 0 none (List.map bV o)
    let v27:Heap:=(hp [v21,v23,v24,v25,v26])
    refine Wc.wn0 [(5,(.int .i64 (w))),(6,(.ptr 0 0 0)),(7,(.ptr 1 0 0)),(8,(.ptr 2 0 0)),(9,(.bool true)),(24,(.bool true)),(31,(.int .i64 (t.d.kind)))] v27 ?_
    refine Wc.block (Wc.seq (Wc.w0 [(37,(.bool (decide (t.d.kind=1))))] ?_))
    refine Wc.cq (p:=t.d.kind=1) (fun c1=>?_) (fun c1=>?_)
    ·refine Wc.weak (s':=(base 15 99).on [(5,.int .i64 w),(6,.ptr 0 0 0),(7,.ptr 1 0 0),(8,.ptr 2 0 0)]) (Le.on [5,6,7,8] (by kernel_rfl)) ?_
     have hne:=htx c1
     refine Wc.enter (Wl.b0 0 3 [(5,(.int .i64 (w))),(41,(.str (t.d.text)))] ?_)
     refine Wl.s 3 [] (@Go.AM.cSayB (Obj.row 0 54 1 0 (some 1) [V.sl 3 0 0 (List.length r) none]) (Obj.row 0 57 6 0 (some 1) [encT t]) (Obj.row 0 57 6 0 none (List.map encT (List.reverse r))) (col) (List.length o) (o) (t.d.text) (by omega) hne (by omega) (by omega) (by omega)) ?_
     refine Wl.dn 4 ?_
     refine q25 (L:=r) (o:=o++t.d.text) (c:=colS t.d.text col) (es:=r.reverse.map encT) (nL:=r.length) (bs:=o.map bV++t.d.text.map bV) (nO:=o.length+t.d.text.length) ?_ (by simp) (by rw [List.map_append]) (by simp [hne0]) rfl rfl (hQ.text c1) hrt
     exact Vw.gk [(0,false),(1,false),(2,false),(3,true),(4,true)] [(0=0),(1=1),(0=0),(∀ (e:V),e∈List.map encT (List.reverse r)→x2 (x4 3) (V.cells e)=true),(∀ (e:V),e∈List.map bV o++List.map bV t.d.text→x2 (x4 3) (V.cells e)=true),(0=0),(0=0),(0=0)] (.cons (by omega) (.cons (by omega) (.cons (by omega) (.cons (by exact x3 (fun _=>rfl) _) (.cons (by exact w6 (x3 (fun _=>rfl) _) (x3 (fun _=>rfl) _)) (.cons (by omega) (.cons (by omega) (.cons (by omega) .nil))))))))
    refine Wc.seq (Wc.seq ?_)
    let v28:V:=(.bool (decide (t.d.kind=2)))
    refine Wc.w0 [(43,v28)] ?_
    refine Wc.cq (p:=t.d.kind=2) (fun c2=>?_) (fun c2=>?_)
    ·refine Wc.skip ?_
     refine Wc.cq (p:=t.d.kind=2) (fun c3=>?_) (fun c3=>absurd (show t.d.kind=2 from c2) c3)
     refine Wc.block (Wc.seq (Wc.enter (Wl.b0 0 4 [(51,(.bool (!t.flat)))] ?_)))
     refine Wl.split (p:=(t.flat)=true) (fun c4=>?_) (fun c4=>?_)
     ·refine Wl.k 51 (.bool (!t.flat)) (.bool false) (by have e:=c4;simp only [e] <;> rfl) ?_
      refine Wl.b0 4 10 [(47,(.bool (decide (t.d.kind=4))))] ?_
      refine Wl.dn 10 ?_
      refine Wc.cq (p:=t.d.kind=4) (fun c5=>absurd c5 (show ¬ (t.d.kind=4) from (by omega))) (fun c5=>?_)
      refine Wc.seq (Wc.w0 [(63,v28)] ?_)
      refine Wc.cq (p:=t.d.kind=2) (fun c6=>?_) (fun c6=>absurd (show t.d.kind=2 from c2) c6)
      refine Wc.enter (Wl.s 0 [] (@Go.AM.cSayB (Obj.row 0 54 1 0 (some 1) [V.sl 3 0 0 (List.length r) none]) (Obj.row 0 57 6 0 (some 1) [encT t]) (Obj.row 0 57 6 0 none (List.map encT (List.reverse r))) (col) (List.length o) (o) ([32]) (by omega) (by simp) (by simp) (by omega) (by omega)) ?_)
      refine Wl.dn 1 ?_
      refine q25 (L:=r) (o:=o++[32]) (c:=colS [32] col) (es:=r.reverse.map encT) (nL:=r.length) (bs:=o.map bV++[32].map bV) (nO:=o.length+[32].length) ?_ (by simp) (by rw [List.map_append]) (by simp [hne0]) rfl rfl (hQ.blank c2 c4) hrt
      exact Vw.gk [(0,false),(1,false),(2,false),(3,true),(4,true)] [(0=0),(1=1),(0=0),(∀ (e:V),e∈List.map encT (List.reverse r)→x2 (x4 3) (V.cells e)=true),(∀ (e:V),e∈List.map bV o++List.map bV [(32:UInt8)]→x2 (x4 3) (V.cells e)=true),(0=0),(0=0),(0=0)] (.cons (by omega) (.cons (by omega) (.cons (by omega) (.cons (by exact x3 (fun _=>rfl) _) (.cons (by exact w6 (x3 (fun _=>rfl) _) (x3 (fun _=>rfl) _)) (.cons (by omega) (.cons (by omega) (.cons (by omega) .nil))))))))
     refine Wl.k 51 (.bool (!t.flat)) (.bool true) (by have e:=Bool.eq_false_iff.2 c4;simp only [e] <;> rfl) ?_
     refine Wl.b0 4 10 [(47,(.bool true))] ?_
     refine Wl.dn 10 (Wc.ct (Wc.weak (s':=(base 15 99).on [(5,.int .i64 w),(6,.ptr 0 0 0),(7,.ptr 1 0 0),(8,.ptr 2 0 0)]) (Le.on [5,6,7,8] (by kernel_rfl)) ?_))
     refine Wc.enter (Wl.bn0 0 3 [(59,(.int .i64 (max t.n 0)))] (hp [.row 0 51 3 0 (some 1) [.agg [.ptr 0 0 0,.sl 4 0 0 o.length none,.int .i64 col]],.row 0 54 1 0 (some 1) [.sl 3 0 0 r.length none],.row 0 57 6 0 (some 1) [encT t],.row 0 57 6 0 none (r.reverse.map encT),.row 0 5 1 0 none (o.map bV)]) ?_)
     refine Wl.c 3 [(60,(.str (j2 (Int.toNat (max t.n 0)))))] (@Go.AM.cRepeat (max t.n 0) (by omega) hnm) ?_
     let v29:V:=(.str ([10]++j2 (Int.toNat (max t.n 0))))
     refine Wl.bs 4 5 [(61,v29)] [(1:Nat)+(j2 (Int.toNat (max t.n 0))).length≤(1099511627776:Nat)] (.cons (by omega) .nil) ?_
     refine Wl.k 61 (.str ([10]++j2 (Int.toNat (max t.n 0)))) (.str e) (by rw [he]) ?_
     refine Wl.s 5 [(5,(.int .i64 (w)))] (@Go.AM.cSayB (Obj.row 0 54 1 0 (some 1) [V.sl 3 0 0 (List.length r) none]) (Obj.row 0 57 6 0 (some 1) [encT t]) (Obj.row 0 57 6 0 none (List.map encT (List.reverse r))) (col) (List.length o) (o) (e) (by omega) hene (by omega) (by omega) (by omega)) ?_
     refine Wl.dn 6 ?_
     refine q25 (L:=r) (o:=o++e) (c:=colS e col) (es:=r.reverse.map encT) (nL:=r.length) (bs:=o.map bV++e.map bV) (nO:=o.length+e.length) ?_ (by simp) (by rw [List.map_append]) (by simp [hne0]) rfl rfl (by have:=hQ.line (.inl c2) (.inl (Bool.eq_false_iff.2 c4));rwa [← hed] at this) hrt
     exact Vw.gk [(0,false),(1,false),(2,false),(3,true),(4,true)] [(0=0),(1=1),(0=0),(∀ (e:V),e∈List.map encT (List.reverse r)→x2 (x4 3) (V.cells e)=true),(∀ (e_1:V),e_1∈List.map bV o++List.map bV e→x2 (x4 (3:Nat)) (V.cells e_1)=true),(0=0),(0=0),(0=0)] (.cons (by omega) (.cons (by omega) (.cons (by omega) (.cons (by exact x3 (fun _=>rfl) _) (.cons (by exact w6 (x3 (fun _=>rfl) _) (x3 (fun _=>rfl) _)) (.cons (by omega) (.cons (by omega) (.cons (by omega) .nil))))))))
    refine Wc.seq (Wc.w0 [(43,(.bool (decide (t.d.kind=3))))] ?_)
    refine Wc.cq (p:=t.d.kind=3) (fun c7=>?_) (fun c7=>?_)
    ·refine Wc.skip ?_
     refine Wc.cq (p:=t.d.kind=3) (fun c8=>?_) (fun c8=>absurd (show t.d.kind=3 from c7) c8)
     refine Wc.block (Wc.seq (Wc.enter (Wl.b0 0 4 [(51,(.bool (!t.flat)))] ?_)))
     refine Wl.split (p:=(t.flat)=true) (fun c9=>?_) (fun c9=>?_)
     ·refine Wl.k 51 (.bool (!t.flat)) (.bool false) (by have e:=c9;simp only [e] <;> rfl) ?_
      refine Wl.b0 4 10 [(47,(.bool (decide (t.d.kind=4))))] ?_
      refine Wl.dn 10 ?_
      refine Wc.cq (p:=t.d.kind=4) (fun c10=>absurd c10 (show ¬ (t.d.kind=4) from (by omega))) (fun c10=>?_)
      refine Wc.seq (Wc.w0 [(63,v28)] ?_)
      refine Wc.cq (p:=t.d.kind=2) (fun c11=>absurd c11 (show ¬ (t.d.kind=2) from c2)) (fun c11=>?_)
      refine Wc.skip ?_
      refine q25 (L:=r) (o:=o) (c:=col) (es:=r.reverse.map encT) (nL:=r.length) (bs:=o.map bV) (nO:=o.length) ?_ rfl rfl hne0 rfl rfl (hQ.soft c7 c9) hrt
      exact Vw.gk [(0,false),(1,false),(2,false),(3,true),(4,true)] [(0=0),(0=0),(0=0),(∀ (e:V),e∈List.map encT (List.reverse r)→x2 (x4 3) (V.cells e)=true),(∀ (e:V),e∈List.map bV o→x2 (x4 3) (V.cells e)=true),(0=0),(0=0),(0=0)] (.cons (by omega) (.cons (by omega) (.cons (by omega) (.cons (by exact x3 (fun _=>rfl) _) (.cons (by exact x3 (fun _=>rfl) _) (.cons (by omega) (.cons (by omega) (.cons (by omega) .nil))))))))
     refine Wl.k 51 (.bool (!t.flat)) (.bool true) (by have e:=Bool.eq_false_iff.2 c9;simp only [e] <;> rfl) ?_
     refine Wl.b0 4 10 [(47,(.bool true))] ?_
     refine Wl.dn 10 (Wc.ct (Wc.weak (s':=(base 15 99).on [(5,.int .i64 w),(6,.ptr 0 0 0),(7,.ptr 1 0 0),(8,.ptr 2 0 0)]) (Le.on [5,6,7,8] (by kernel_rfl)) ?_))
     refine Wc.enter (Wl.bn0 0 3 [(59,(.int .i64 (max t.n 0)))] (hp [.row 0 51 3 0 (some 1) [.agg [.ptr 0 0 0,.sl 4 0 0 o.length none,.int .i64 col]],.row 0 54 1 0 (some 1) [.sl 3 0 0 r.length none],.row 0 57 6 0 (some 1) [encT t],.row 0 57 6 0 none (r.reverse.map encT),.row 0 5 1 0 none (o.map bV)]) ?_)
     refine Wl.c 3 [(60,(.str (j2 (Int.toNat (max t.n 0)))))] (@Go.AM.cRepeat (max t.n 0) (by omega) hnm) ?_
     let v30:V:=(.str ([10]++j2 (Int.toNat (max t.n 0))))
     refine Wl.bs 4 5 [(61,v30)] [(1:Nat)+(j2 (Int.toNat (max t.n 0))).length≤(1099511627776:Nat)] (.cons (by omega) .nil) ?_
     refine Wl.k 61 (.str ([10]++j2 (Int.toNat (max t.n 0)))) (.str e) (by rw [he]) ?_
     refine Wl.s 5 [(5,(.int .i64 (w)))] (@Go.AM.cSayB (Obj.row 0 54 1 0 (some 1) [V.sl 3 0 0 (List.length r) none]) (Obj.row 0 57 6 0 (some 1) [encT t]) (Obj.row 0 57 6 0 none (List.map encT (List.reverse r))) (col) (List.length o) (o) (e) (by omega) hene (by omega) (by omega) (by omega)) ?_
     refine Wl.dn 6 ?_
     refine q25 (L:=r) (o:=o++e) (c:=colS e col) (es:=r.reverse.map encT) (nL:=r.length) (bs:=o.map bV++e.map bV) (nO:=o.length+e.length) ?_ (by simp) (by rw [List.map_append]) (by simp [hne0]) rfl rfl (by have:=hQ.line (.inr (.inl c7)) (.inl (Bool.eq_false_iff.2 c9));rwa [← hed] at this) hrt
     exact Vw.gk [(0,false),(1,false),(2,false),(3,true),(4,true)] [(0=0),(1=1),(0=0),(∀ (e:V),e∈List.map encT (List.reverse r)→x2 (x4 3) (V.cells e)=true),(∀ (e_1:V),e_1∈List.map bV o++List.map bV e→x2 (x4 (3:Nat)) (V.cells e_1)=true),(0=0),(0=0),(0=0)] (.cons (by omega) (.cons (by omega) (.cons (by omega) (.cons (by exact x3 (fun _=>rfl) _) (.cons (by exact w6 (x3 (fun _=>rfl) _) (x3 (fun _=>rfl) _)) (.cons (by omega) (.cons (by omega) (.cons (by omega) .nil))))))))
    refine Wc.w0 [(43,(.bool (decide (t.d.kind=4))))] ?_
    refine Wc.cq (p:=t.d.kind=4) (fun c12=>?_) (fun c12=>?_)
    ·refine Wc.block (Wc.seq (Wc.enter (Wl.b0 0 4 [(51,(.bool (!t.flat)))] ?_)))
     refine Wl.split (p:=(t.flat)=true) (fun c13=>?_) (fun c13=>?_)
     ·refine Wl.k 51 (.bool (!t.flat)) (.bool false) (by have e:=c13;simp only [e] <;> rfl) ?_
      refine Wl.b0 4 10 [(47,(.bool (decide (t.d.kind=4))))] ?_
      refine Wl.dn 10 ?_
      refine Wc.cq (p:=t.d.kind=4) (fun c14=>?_) (fun c14=>absurd (show t.d.kind=4 from c12) c14)
      refine Wc.weak (s':=(base 15 99).on [(5,.int .i64 w),(6,.ptr 0 0 0),(7,.ptr 1 0 0),(8,.ptr 2 0 0)]) (Le.on [5,6,7,8] (by kernel_rfl)) ?_
      refine Wc.enter (Wl.bn0 0 3 [(59,(.int .i64 (max t.n 0)))] (hp [.row 0 51 3 0 (some 1) [.agg [.ptr 0 0 0,.sl 4 0 0 o.length none,.int .i64 col]],.row 0 54 1 0 (some 1) [.sl 3 0 0 r.length none],.row 0 57 6 0 (some 1) [encT t],.row 0 57 6 0 none (r.reverse.map encT),.row 0 5 1 0 none (o.map bV)]) ?_)
      refine Wl.c 3 [(60,(.str (j2 (Int.toNat (max t.n 0)))))] (@Go.AM.cRepeat (max t.n 0) (by omega) hnm) ?_
      let v31:V:=(.str ([10]++j2 (Int.toNat (max t.n 0))))
      refine Wl.bs 4 5 [(61,v31)] [(1:Nat)+(j2 (Int.toNat (max t.n 0))).length≤(1099511627776:Nat)] (.cons (by omega) .nil) ?_
      refine Wl.k 61 (.str ([10]++j2 (Int.toNat (max t.n 0)))) (.str e) (by rw [he]) ?_
      refine Wl.s 5 [(5,(.int .i64 (w)))] (@Go.AM.cSayB (Obj.row 0 54 1 0 (some 1) [V.sl 3 0 0 (List.length r) none]) (Obj.row 0 57 6 0 (some 1) [encT t]) (Obj.row 0 57 6 0 none (List.map encT (List.reverse r))) (col) (List.length o) (o) (e) (by omega) hene (by omega) (by omega) (by omega)) ?_
      refine Wl.dn 6 ?_
      refine q25 (L:=r) (o:=o++e) (c:=colS e col) (es:=r.reverse.map encT) (nL:=r.length) (bs:=o.map bV++e.map bV) (nO:=o.length+e.length) ?_ (by simp) (by rw [List.map_append]) (by simp [hne0]) rfl rfl (by have:=hQ.line (.inr (.inr c12)) (.inr c12);rwa [← hed] at this) hrt
      exact Vw.gk [(0,false),(1,false),(2,false),(3,true),(4,true)] [(0=0),(1=1),(0=0),(∀ (e:V),e∈List.map encT (List.reverse r)→x2 (x4 3) (V.cells e)=true),(∀ (e_1:V),e_1∈List.map bV o++List.map bV e→x2 (x4 (3:Nat)) (V.cells e_1)=true),(0=0),(0=0),(0=0)] (.cons (by omega) (.cons (by omega) (.cons (by omega) (.cons (by exact x3 (fun _=>rfl) _) (.cons (by exact w6 (x3 (fun _=>rfl) _) (x3 (fun _=>rfl) _)) (.cons (by omega) (.cons (by omega) (.cons (by omega) .nil))))))))
     refine Wl.k 51 (.bool (!t.flat)) (.bool true) (by have e:=Bool.eq_false_iff.2 c13;simp only [e] <;> rfl) ?_
     refine Wl.b0 4 10 [(47,(.bool true))] ?_
     refine Wl.dn 10 (Wc.ct (Wc.weak (s':=(base 15 99).on [(5,.int .i64 w),(6,.ptr 0 0 0),(7,.ptr 1 0 0),(8,.ptr 2 0 0)]) (Le.on [5,6,7,8] (by kernel_rfl)) ?_))
     refine Wc.enter (Wl.bn0 0 3 [(59,(.int .i64 (max t.n 0)))] (hp [.row 0 51 3 0 (some 1) [.agg [.ptr 0 0 0,.sl 4 0 0 o.length none,.int .i64 col]],.row 0 54 1 0 (some 1) [.sl 3 0 0 r.length none],.row 0 57 6 0 (some 1) [encT t],.row 0 57 6 0 none (r.reverse.map encT),.row 0 5 1 0 none (o.map bV)]) ?_)
     refine Wl.c 3 [(60,(.str (j2 (Int.toNat (max t.n 0)))))] (@Go.AM.cRepeat (max t.n 0) (by omega) hnm) ?_
     let v32:V:=(.str ([10]++j2 (Int.toNat (max t.n 0))))
     refine Wl.bs 4 5 [(61,v32)] [(1:Nat)+(j2 (Int.toNat (max t.n 0))).length≤(1099511627776:Nat)] (.cons (by omega) .nil) ?_
     refine Wl.k 61 (.str ([10]++j2 (Int.toNat (max t.n 0)))) (.str e) (by rw [he]) ?_
     refine Wl.s 5 [(5,(.int .i64 (w)))] (@Go.AM.cSayB (Obj.row 0 54 1 0 (some 1) [V.sl 3 0 0 (List.length r) none]) (Obj.row 0 57 6 0 (some 1) [encT t]) (Obj.row 0 57 6 0 none (List.map encT (List.reverse r))) (col) (List.length o) (o) (e) (by omega) hene (by omega) (by omega) (by omega)) ?_
     refine Wl.dn 6 ?_
     refine q25 (L:=r) (o:=o++e) (c:=colS e col) (es:=r.reverse.map encT) (nL:=r.length) (bs:=o.map bV++e.map bV) (nO:=o.length+e.length) ?_ (by simp) (by rw [List.map_append]) (by simp [hne0]) rfl rfl (by have:=hQ.line (.inr (.inr c12)) (.inr c12);rwa [← hed] at this) hrt
     exact Vw.gk [(0,false),(1,false),(2,false),(3,true),(4,true)] [(0=0),(1=1),(0=0),(∀ (e:V),e∈List.map encT (List.reverse r)→x2 (x4 3) (V.cells e)=true),(∀ (e_1:V),e_1∈List.map bV o++List.map bV e→x2 (x4 (3:Nat)) (V.cells e_1)=true),(0=0),(0=0),(0=0)] (.cons (by omega) (.cons (by omega) (.cons (by omega) (.cons (by exact x3 (fun _=>rfl) _) (.cons (by exact w6 (x3 (fun _=>rfl) _) (x3 (fun _=>rfl) _)) (.cons (by omega) (.cons (by omega) (.cons (by omega) .nil))))))))
    refine Wc.seq (Wc.w0 [(69,(.bool (decide (t.d.kind=6))))] ?_)
    refine Wc.cq (p:=t.d.kind=6) (fun c15=>?_) (fun c15=>?_)
    ·refine Wc.seq ?_
     by_cases hh:k8 t.d=true
     ·have hfl:Cp Tryd.prog EU 35 [encD t.d] (.tup [.str [],.bool false]):=by
       have:=qh9 ht.1 (show szD t.d≤100000 by omega)
       rw [if_pos hh,hh] at this;exact this
      refine Wc.enter ?_
      let v33:V:=(.agg [(.int .i64 (t.d.kind)),(.str (t.d.text)),(.int .i64 (t.d.n)),(.osl 4 (esD t.d)),(.bool (t.flat)),(.int .i64 (t.n))])
      refine Wl.b0 0 1 [(71,v33)] ?_
      refine Wl.c 1 [(72,(.osl 6 (List.map encT (z6 t true))))] (@Go.AM.cKids (t) (true) (by omega) hnb) ?_
      refine Wl.b0 2 3 [(10,(.osl 6 (List.map encT (z6 t true))))] ?_
      refine Wl.dn 3 (Wc.seq (Wc.enter (Wl.b0 0 2 [(75,(.agg [(.int .i64 (t.d.kind)),(.str (t.d.text)),(.int .i64 (t.d.n)),(.osl 4 (esD t.d))]))] ?_)))
      refine Wl.c 2 [(76,(.tup [(.str []),(.bool false)]))] (@hfl) ?_
      refine Wl.b0 3 8 [(12,(.bool false))] ?_
      refine Wl.dn 8 (Wc.seq (Wc.w0 [(88,(.bool false))] ?_))
      refine Wc.cf (Wc.enter (Wl.b0 0 3 [(91,v33),(93,(.bool (t.flat)))] ?_))
      refine Wl.c 3 [(94,(.osl 6 (List.map encT (z6 t t.flat))))] (@Go.AM.cKids (t) (t.flat) (by omega) hnb) ?_
      refine Wl.s 4 [] (@Go.AM.cPush5 (Obj.row 0 51 3 0 (some 1) [V.agg [V.ptr 0 0 0,V.sl 4 0 0 (List.length o) none,V.int .i64 col]]) (Obj.row 0 57 6 0 (some 1) [encT t]) (Obj.row 0 5 1 0 none (List.map bV o)) (List.reverse r) (List.length r) (z6 t t.flat) hkl1 hrr hrl2) ?_
      refine Wl.dn 5 ?_
      refine q25 (L:=z6 t t.flat++r) (o:=o) (c:=col) (es:=r.reverse.map encT++(z6 t t.flat).reverse.map encT) (nL:=r.length+(z6 t t.flat).length) (bs:=o.map bV) (nO:=o.length) ?_ rfl rfl hne0 (by rw [List.length_append];omega) (by simp) (hQ.push t.flat (qv9 c15 (by rw [hh];rfl))) (q02 t _ r)
      exact Vw.gk [(0,false),(1,false),(2,false),(3,true),(4,true)] [(0=0),(0=0),(List.length (z6 t t.flat)=List.length (z6 t t.flat)),(∀ (e:V),e∈List.map encT (List.reverse r)++List.map encT (List.reverse (z6 t t.flat))→x2 (x4 3) (V.cells e)=true),(∀ (e:V),e∈List.map bV o→x2 (x4 3) (V.cells e)=true),(0=0),(0=0),(0=0)] (.cons (by omega) (.cons (by omega) (.cons (by omega) (.cons (by exact w6 (x3 (fun _=>rfl) _) (x3 (fun _=>rfl) _)) (.cons (by exact x3 (fun _=>rfl) _) (.cons (by omega) (.cons (by omega) (.cons (by omega) .nil))))))))
     have hfl:Cp Tryd.prog EU 35 [encD t.d] (.tup [.str (x8 t.d),.bool true]):=by
      have:=qh9 ht.1 (show szD t.d≤100000 by omega)
      rw [if_neg hh,Bool.eq_false_iff.2 hh] at this;exact this
     have hfits:∀ b,y1 w (z6 t true++r) col=b→Came Tryd.prog EU 36 [.osl 6 ((z6 t true).map encT),.sl 3 0 0 r.length none,.int .i64 col,.int .i64 w] (hp [.row 0 51 3 0 (some 1) [.agg [.ptr 0 0 0,.sl 4 0 0 o.length none,.int .i64 col]],.row 0 54 1 0 (some 1) [.sl 3 0 0 r.length none],.row 0 57 6 0 (some 1) [encT t],.row 0 57 6 0 none (r.reverse.map encT),.row 0 5 1 0 none (o.map bV)]) (.bool b) (hp [.row 0 51 3 0 (some 1) [.agg [.ptr 0 0 0,.sl 4 0 0 o.length none,.int .i64 col]],.row 0 54 1 0 (some 1) [.sl 3 0 0 r.length none],.row 0 57 6 0 (some 1) [encT t],.row 0 57 6 0 none (r.reverse.map encT),.row 0 5 1 0 none (o.map bV)]):=x81 (hp [.row 0 51 3 0 (some 1) [.agg [.ptr 0 0 0,.sl 4 0 0 o.length none,.int .i64 col]],.row 0 54 1 0 (some 1) [.sl 3 0 0 r.length none],.row 0 57 6 0 (some 1) [encT t],.row 0 57 6 0 none (r.reverse.map encT),.row 0 5 1 0 none (o.map bV)]) (fun u hu=>hQ.ok u (by simp [hu])) ht hsum hcol.1 (by omega) hw2 (by kernel_rfl)
     cases hf:y1 w (z6 t true++r) col with
     | true =>
      have hfits:=hfits true hf
      refine Wc.enter (Wl.b0 0 1 [(71,(.agg [(.int .i64 (t.d.kind)),(.str (t.d.text)),(.int .i64 (t.d.n)),(.osl 4 (esD t.d)),(.bool (t.flat)),(.int .i64 (t.n))]))] ?_)
      let v34:V:=(.osl 6 (List.map encT (z6 t true)))
      refine Wl.c 1 [(72,v34)] (@Go.AM.cKids (t) (true) (by omega) hnb) ?_
      refine Wl.b0 2 3 [(10,v34)] ?_
      refine Wl.dn 3 (Wc.seq (Wc.enter (Wl.b0 0 2 [(75,(.agg [(.int .i64 (t.d.kind)),(.str (t.d.text)),(.int .i64 (t.d.n)),(.osl 4 (esD t.d))]))] ?_)))
      refine Wl.c 2 [(76,(.tup [(.str (x8 t.d)),(.bool true)]))] (@hfl) ?_
      refine Wl.b0 3 8 [(12,(.bool true))] ?_
      refine Wl.dn 8 (Wc.seq (Wc.enter (Wl.b0 0 8 [(80,(.bool true)),(81,v34),(83,(.sl 3 0 0 (List.length r) none)),(85,(.int .i64 (col))),(86,(.int .i64 (w)))] ?_)))
      refine Wl.callC (b:=base 15 99) (h1:=(hp [.row 0 51 3 0 (some 1) [.agg [.ptr 0 0 0,.sl 4 0 0 o.length none,.int .i64 col]],.row 0 54 1 0 (some 1) [.sl 3 0 0 r.length none],.row 0 57 6 0 (some 1) [encT t],.row 0 57 6 0 none (r.reverse.map encT),.row 0 5 1 0 none (o.map bV)])) (h2:=(hp [.row 0 51 3 0 (some 1) [.agg [.ptr 0 0 0,.sl 4 0 0 o.length none,.int .i64 col]],.row 0 54 1 0 (some 1) [.sl 3 0 0 r.length none],.row 0 57 6 0 (some 1) [encT t],.row 0 57 6 0 none (r.reverse.map encT),.row 0 5 1 0 none (o.map bV)])) (v:=.bool true) (d:=some 87) 8 [5,6,7,8,10,80,87] [(5,.int .i64 w),(6,.ptr 0 0 0),(7,.ptr 1 0 0),(8,.ptr 2 0 0),(10,.osl 6 ((z6 t true).map encT)),(80,.bool true),(87,.bool true)] hfits (by kernel_rfl) (by kernel_rfl) ?_
      refine Wl.bn0 9 10 [(5,(.int .i64 (w))),(6,(.ptr 0 0 0)),(7,(.ptr 1 0 0)),(8,(.ptr 2 0 0)),(10,v34),(88,(.bool true))] (hp [.row 0 51 3 0 (some 1) [(.agg [(.ptr 0 0 0),(.sl 4 0 0 (List.length o) none),(.int .i64 (col))])],.row 0 54 1 0 (some 1) [(.sl 3 0 0 (List.length r) none)],.row 0 57 6 0 (some 1) [(encT t)],.row 0 57 6 0 none (List.map encT (List.reverse r)),.row 0 5 1 0 none (List.map bV o)]) ?_
      refine Wl.dn 10 (Wc.ct (Wc.enter (Wl.b0 0 1 [(89,v34)] ?_)))
      refine Wl.s 1 [] (@Go.AM.cPush5 (Obj.row 0 51 3 0 (some 1) [V.agg [V.ptr 0 0 0,V.sl 4 0 0 (List.length o) none,V.int .i64 col]]) (Obj.row 0 57 6 0 (some 1) [encT t]) (Obj.row 0 5 1 0 none (List.map bV o)) (List.reverse r) (List.length r) (z6 t true) hkl2 hrr hrl2) ?_
      refine Wl.dn 2 ?_
      refine q25 (L:=z6 t true++r) (o:=o) (c:=col) (es:=r.reverse.map encT++(z6 t true).reverse.map encT) (nL:=r.length+(z6 t true).length) (bs:=o.map bV) (nO:=o.length) ?_ rfl rfl hne0 (by rw [List.length_append];omega) (by simp) (hQ.push true (zj8 c15 (by rw [hf,Bool.eq_false_iff.2 hh];rfl))) (q02 t _ r)
      exact Vw.gk [(0,false),(1,false),(2,false),(3,true),(4,true)] [(0=0),(0=0),(List.length (z6 t true)=List.length (z6 t true)),(∀ (e:V),e∈List.map encT (List.reverse r)++List.map encT (List.reverse (z6 t true))→x2 (x4 3) (V.cells e)=true),(∀ (e:V),e∈List.map bV o→x2 (x4 3) (V.cells e)=true),(0=0),(0=0),(0=0)] (.cons (by omega) (.cons (by omega) (.cons (by omega) (.cons (by exact w6 (x3 (fun _=>rfl) _) (x3 (fun _=>rfl) _)) (.cons (by exact x3 (fun _=>rfl) _) (.cons (by omega) (.cons (by omega) (.cons (by omega) .nil))))))))
     | false =>
      have hfits:=hfits false hf
      refine Wc.enter ?_
      let v35:V:=(.agg [(.int .i64 (t.d.kind)),(.str (t.d.text)),(.int .i64 (t.d.n)),(.osl 4 (esD t.d)),(.bool (t.flat)),(.int .i64 (t.n))])
      refine Wl.b0 0 1 [(71,v35)] ?_
      let v36:V:=(.osl 6 (List.map encT (z6 t true)))
      refine Wl.c 1 [(72,v36)] (@Go.AM.cKids (t) (true) (by omega) hnb) ?_
      refine Wl.b0 2 3 [(10,v36)] ?_
      refine Wl.dn 3 (Wc.seq (Wc.enter (Wl.b0 0 2 [(75,(.agg [(.int .i64 (t.d.kind)),(.str (t.d.text)),(.int .i64 (t.d.n)),(.osl 4 (esD t.d))]))] ?_)))
      refine Wl.c 2 [(76,(.tup [(.str (x8 t.d)),(.bool true)]))] (@hfl) ?_
      refine Wl.b0 3 8 [(12,(.bool true))] ?_
      refine Wl.dn 8 (Wc.seq (Wc.enter (Wl.b0 0 8 [(80,(.bool true)),(81,v36),(83,(.sl 3 0 0 (List.length r) none)),(85,(.int .i64 (col))),(86,(.int .i64 (w)))] ?_)))
      refine Wl.callC (b:=base 15 99) (h1:=(hp [.row 0 51 3 0 (some 1) [.agg [.ptr 0 0 0,.sl 4 0 0 o.length none,.int .i64 col]],.row 0 54 1 0 (some 1) [.sl 3 0 0 r.length none],.row 0 57 6 0 (some 1) [encT t],.row 0 57 6 0 none (r.reverse.map encT),.row 0 5 1 0 none (o.map bV)])) (h2:=(hp [.row 0 51 3 0 (some 1) [.agg [.ptr 0 0 0,.sl 4 0 0 o.length none,.int .i64 col]],.row 0 54 1 0 (some 1) [.sl 3 0 0 r.length none],.row 0 57 6 0 (some 1) [encT t],.row 0 57 6 0 none (r.reverse.map encT),.row 0 5 1 0 none (o.map bV)])) (v:=.bool false) (d:=some 87) 8 [5,6,7,8,10,80,87] [(5,.int .i64 w),(6,.ptr 0 0 0),(7,.ptr 1 0 0),(8,.ptr 2 0 0),(10,.osl 6 ((z6 t true).map encT)),(80,.bool true),(87,.bool false)] hfits (by kernel_rfl) (by kernel_rfl) ?_
      refine Wl.bn0 9 10 [(5,(.int .i64 (w))),(6,(.ptr 0 0 0)),(7,(.ptr 1 0 0)),(8,(.ptr 2 0 0)),(10,v36),(88,(.bool false))] (hp [.row 0 51 3 0 (some 1) [(.agg [(.ptr 0 0 0),(.sl 4 0 0 (List.length o) none),(.int .i64 (col))])],.row 0 54 1 0 (some 1) [(.sl 3 0 0 (List.length r) none)],.row 0 57 6 0 (some 1) [(encT t)],.row 0 57 6 0 none (List.map encT (List.reverse r)),.row 0 5 1 0 none (List.map bV o)]) ?_
      refine Wl.dn 10 (Wc.cf (Wc.enter (Wl.b0 0 3 [(91,v35),(93,(.bool (t.flat)))] ?_)))
      refine Wl.c 3 [(94,(.osl 6 (List.map encT (z6 t t.flat))))] (@Go.AM.cKids (t) (t.flat) (by omega) hnb) ?_
      refine Wl.s 4 [] (@Go.AM.cPush5 (Obj.row 0 51 3 0 (some 1) [V.agg [V.ptr 0 0 0,V.sl 4 0 0 (List.length o) none,V.int .i64 col]]) (Obj.row 0 57 6 0 (some 1) [encT t]) (Obj.row 0 5 1 0 none (List.map bV o)) (List.reverse r) (List.length r) (z6 t t.flat) hkl1 hrr hrl2) ?_
      refine Wl.dn 5 ?_
      refine q25 (L:=z6 t t.flat++r) (o:=o) (c:=col) (es:=r.reverse.map encT++(z6 t t.flat).reverse.map encT) (nL:=r.length+(z6 t t.flat).length) (bs:=o.map bV) (nO:=o.length) ?_ rfl rfl hne0 (by rw [List.length_append];omega) (by simp) (hQ.push t.flat (qv9 c15 (by rw [hf];simp))) (q02 t _ r)
      exact Vw.gk [(0,false),(1,false),(2,false),(3,true),(4,true)] [(0=0),(0=0),(List.length (z6 t t.flat)=List.length (z6 t t.flat)),(∀ (e:V),e∈List.map encT (List.reverse r)++List.map encT (List.reverse (z6 t t.flat))→x2 (x4 3) (V.cells e)=true),(∀ (e:V),e∈List.map bV o→x2 (x4 3) (V.cells e)=true),(0=0),(0=0),(0=0)] (.cons (by omega) (.cons (by omega) (.cons (by omega) (.cons (by exact w6 (x3 (fun _=>rfl) _) (x3 (fun _=>rfl) _)) (.cons (by exact x3 (fun _=>rfl) _) (.cons (by omega) (.cons (by omega) (.cons (by omega) .nil))))))))
    refine Wc.weak (s':=(base 15 99).on [(5,.int .i64 w),(6,.ptr 0 0 0),(7,.ptr 1 0 0),(8,.ptr 2 0 0)]) (Le.on [5,6,7,8] (by kernel_rfl)) ?_
    refine Wc.enter (Wl.b0 0 3 [(5,(.int .i64 (w))),(32,(.agg [(.int .i64 (t.d.kind)),(.str (t.d.text)),(.int .i64 (t.d.n)),(.osl 4 (esD t.d)),(.bool (t.flat)),(.int .i64 (t.n))])),(34,(.bool (t.flat)))] ?_)
    refine Wl.c 3 [(35,(.osl 6 (List.map encT (z6 t t.flat))))] (@Go.AM.cKids (t) (t.flat) (by omega) hnb) ?_
    refine Wl.s 4 [] (@Go.AM.cPush5 (Obj.row 0 51 3 0 (some 1) [V.agg [V.ptr 0 0 0,V.sl 4 0 0 (List.length o) none,V.int .i64 col]]) (Obj.row 0 57 6 0 (some 1) [encT t]) (Obj.row 0 5 1 0 none (List.map bV o)) (List.reverse r) (List.length r) (z6 t t.flat) hkl1 hrr hrl2) ?_
    refine Wl.dn 5 ?_
    refine q25 (L:=z6 t t.flat++r) (o:=o) (c:=col) (es:=r.reverse.map encT++(z6 t t.flat).reverse.map encT) (nL:=r.length+(z6 t t.flat).length) (bs:=o.map bV) (nO:=o.length) ?_ rfl rfl hne0 (by rw [List.length_append];omega) (by simp) (hQ.push t.flat (qk0 c1 (by omega) c15)) (q02 t _ r)
    exact Vw.gk [(0,false),(1,false),(2,false),(3,true),(4,true)] [(0=0),(0=0),(List.length (z6 t t.flat)=List.length (z6 t t.flat)),(∀ (e:V),e∈List.map encT (List.reverse r)++List.map encT (List.reverse (z6 t t.flat))→x2 (x4 3) (V.cells e)=true),(∀ (e:V),e∈List.map bV o→x2 (x4 3) (V.cells e)=true),(0=0),(0=0),(0=0)] (.cons (by omega) (.cons (by omega) (.cons (by omega) (.cons (by exact w6 (x3 (fun _=>rfl) _) (x3 (fun _=>rfl) _)) (.cons (by exact x3 (fun _=>rfl) _) (.cons (by omega) (.cons (by omega) (.cons (by omega) .nil))))))))
  rintro ⟨L,o,cl⟩ ⟨hQ',hlt⟩
  have hQ':LayQ w R L o cl:=hQ'
  have hlt:w8 L<w8 (t::r):=hlt
  cases L with
  | nil =>
   have hlz:w8 []<w8 (t::r):=hlt
   cases o with
   | nil =>
    let v37:Obj:=.row 0 51 3 0 (some 1) [.agg [.nilp,.nils,.int .i64 cl]]
    let v38:Obj:=.row 0 54 1 0 (some 1) [.sl 3 0 0 0 none]
    let v39:Obj:=.row 0 57 6 0 (some 1) [encT t]
    let v40:Heap:=(hp [v37,v38,v39,.row 0 57 6 0 none []])
    change Wc Tryd.prog EU _ ((base 15 99).on [(5,.int .i64 w),(6,.ptr 0 0 0),(7,.ptr 1 0 0),(8,.ptr 2 0 0)]) v40 _ _ _
    refine Wc.seq (Wc.seq (Wc.wn0 [(5,(.int .i64 w)),(6,(.ptr 0 0 0)),(7,(.ptr 1 0 0)),(8,(.ptr 2 0 0)),(96,(encT t))] v40 ?_))
    refine Wc.mid ((base 15 99).on [(5,.int .i64 w),(6,.ptr 0 0 0),(7,.ptr 1 0 0),(8,.ptr 2 0 0)]) v40 ?_ ?_
    ·refine Wc.wn0 [(5,(.int .i64 (w))),(6,(.ptr 0 0 0)),(7,(.ptr 1 0 0)),(8,(.ptr 4 0 0)),(96,(.agg [(.int .i64 (t.d.kind)),(.str (t.d.text)),(.int .i64 (t.d.n)),(.osl 4 (esD t.d)),(.bool (t.flat)),(.int .i64 (t.n))]))] (hp [.row 0 51 3 0 (some 1) [(.agg [.nilp,.nils,(.int .i64 (cl))])],.row 0 54 1 0 (some 1) [(.sl 3 0 0 0 none)],.row 0 57 6 0 (some 1) [(encT t)],.row 0 57 6 0 none [],.row 0 57 6 0 (some 1) [(.agg [(.int .i64 (t.d.kind)),(.str (t.d.text)),(.int .i64 (t.d.n)),(.osl 4 (esD t.d)),(.bool (t.flat)),(.int .i64 (t.n))])]]) ?_
     exact Vw.gk [(0,false),(1,false),(4,false),(3,false)] [(0=0),(0=0),(0=0),(0=0)] (.cons (by omega) (.cons (by omega) (.cons (by omega) (.cons (by omega) .nil))))
    refine Wc.enter ?_
    let v41:V:=(.agg [(.int .i64 0),(.str []),(.int .i64 0),.nils,(.bool false),(.int .i64 0)])
    refine Wl.s 0 [(5,(.int .i64 (w))),(6,(.ptr 0 0 0)),(7,(.ptr 1 0 0)),(8,(.ptr 2 0 0)),(26,(.tup [v41,(.bool false)]))] (@Go.AM.cPop4N (Obj.row 0 51 3 0 (some 1) [V.agg [V.nilp,V.nils,V.int .i64 cl]]) (Obj.row 0 57 6 0 (some 1) [encT t]) ([])) ?_
    refine Wl.bn0 1 6 [(9,(.bool false))] (hp [.row 0 51 3 0 (some 1) [(.agg [.nilp,.nils,(.int .i64 (cl))])],.row 0 54 1 0 (some 1) [(.sl 3 0 0 0 none)],.row 0 57 6 0 (some 1) [v41],.row 0 57 6 0 none [],.row 0 57 6 0 (some 1) [v41]]) ?_
    refine Wl.dn 6 ?_
    refine zt0 (cur:=none) (L:=[]) (c:=cl) (es:=[]) (nL:=0) (isb:=false) ?_ rfl rfl rfl hQ' (fun _=>rfl) hlz
    exact Vw.gk [(0,false),(1,false),(2,false),(3,false)] [(0=0),(0=0),(0=0),(0=0)] (.cons (by omega) (.cons (by omega) (.cons (by omega) (.cons (by omega) .nil))))
   | cons b o =>
    let v42:Obj:=.row 0 54 1 0 (some 1) [.sl 3 0 0 0 none]
    let v43:Obj:=.row 0 57 6 0 (some 1) [encT t]
    change Wc Tryd.prog EU _ ((base 15 99).on [(5,.int .i64 w),(6,.ptr 0 0 0),(7,.ptr 1 0 0),(8,.ptr 2 0 0)]) (hp [.row 0 51 3 0 (some 1) [.agg [.ptr 0 0 0,.sl 4 0 0 (b::o).length none,.int .i64 cl]],v42,v43,.row 0 57 6 0 none [],.row 0 5 1 0 none ((b::o).map bV)]) _ _ _
    have hne0:b::o≠[]:=by simp
    generalize b::o=o at *
    refine Wc.seq (Wc.seq ?_)
    let v44:Obj:=.row 0 51 3 0 (some 1) [.agg [.ptr 0 0 0,.sl 4 0 0 o.length none,.int .i64 cl]]
    let v45:Obj:=.row 0 54 1 0 (some 1) [.sl 3 0 0 0 none]
    let v46:Obj:=.row 0 57 6 0 (some 1) [encT t]
    let v47:Heap:=(hp [v44,v45,v46,.row 0 57 6 0 none [],.row 0 5 1 0 none (o.map bV)])
    refine Wc.wn0 [(5,(.int .i64 w)),(6,(.ptr 0 0 0)),(7,(.ptr 1 0 0)),(8,(.ptr 2 0 0)),(96,(encT t))] v47 ?_
    refine Wc.mid ((base 15 99).on [(5,.int .i64 w),(6,.ptr 0 0 0),(7,.ptr 1 0 0),(8,.ptr 2 0 0)]) v47 ?_ ?_
    ·refine Wc.wn0 [(5,(.int .i64 (w))),(6,(.ptr 0 0 0)),(7,(.ptr 1 0 0)),(8,(.ptr 5 0 0)),(96,(.agg [(.int .i64 (t.d.kind)),(.str (t.d.text)),(.int .i64 (t.d.n)),(.osl 4 (esD t.d)),(.bool (t.flat)),(.int .i64 (t.n))]))] (hp [.row 0 51 3 0 (some 1) [(.agg [(.ptr 0 0 0),(.sl 4 0 0 (List.length o) none),(.int .i64 (cl))])],.row 0 54 1 0 (some 1) [(.sl 3 0 0 0 none)],.row 0 57 6 0 (some 1) [(encT t)],.row 0 57 6 0 none [],.row 0 5 1 0 none (List.map bV o),.row 0 57 6 0 (some 1) [(.agg [(.int .i64 (t.d.kind)),(.str (t.d.text)),(.int .i64 (t.d.n)),(.osl 4 (esD t.d)),(.bool (t.flat)),(.int .i64 (t.n))])]]) ?_
     exact Vw.gk [(0,false),(1,false),(5,false),(3,false),(4,true)] [(0=0),(0=0),(0=0),(∀ (e:V),e∈List.map bV o→x2 (x4 3) (V.cells e)=true),(0=0),(0=0),(0=0)] (.cons (by omega) (.cons (by omega) (.cons (by omega) (.cons (by exact x3 (fun _=>rfl) _) (.cons (by omega) (.cons (by omega) (.cons (by omega) .nil)))))))
    refine Wc.enter ?_
    let v48:V:=(.agg [(.int .i64 0),(.str []),(.int .i64 0),.nils,(.bool false),(.int .i64 0)])
    refine Wl.s 0 [(5,(.int .i64 (w))),(6,(.ptr 0 0 0)),(7,(.ptr 1 0 0)),(8,(.ptr 2 0 0)),(26,(.tup [v48,(.bool false)]))] (@Go.AM.cPop5N (Obj.row 0 51 3 0 (some 1) [V.agg [V.ptr 0 0 0,V.sl 4 0 0 (List.length o) none,V.int .i64 cl]]) (Obj.row 0 57 6 0 (some 1) [encT t]) (Obj.row 0 5 1 0 none (List.map bV o)) ([])) ?_
    refine Wl.bn0 1 6 [(9,(.bool false))] (hp [.row 0 51 3 0 (some 1) [(.agg [(.ptr 0 0 0),(.sl 4 0 0 (List.length o) none),(.int .i64 (cl))])],.row 0 54 1 0 (some 1) [(.sl 3 0 0 0 none)],.row 0 57 6 0 (some 1) [v48],.row 0 57 6 0 none [],.row 0 5 1 0 none (List.map bV o),.row 0 57 6 0 (some 1) [v48]]) ?_
    refine Wl.dn 6 ?_
    refine x04 (o:=o) (cur:=none) (L:=[]) (c:=cl) (es:=[]) (nL:=0) (isb:=false) ?_ hne0 rfl rfl rfl hQ' (fun _=>rfl) hlz
    exact Vw.gk [(0,false),(1,false),(2,false),(3,false),(4,true)] [(0=0),(0=0),(0=0),(∀ (e:V),e∈List.map bV o→x2 (x4 3) (V.cells e)=true),(0=0),(0=0),(0=0)] (.cons (by omega) (.cons (by omega) (.cons (by omega) (.cons (by exact x3 (fun _=>rfl) _) (.cons (by omega) (.cons (by omega) (.cons (by omega) .nil)))))))
  | cons t1 r1 =>
   have hr1:r1.reverse.length+1≤1000000:=by
    have h1:=hQ'.sum
    have h2:=qe6 r1
    have h3:=q07 t1.d
    rw [j5] at h1
    rw [List.length_reverse];omega
   have hrr1:r1.length+1=r1.reverse.length+1:=by simp
   cases o with
   | nil =>
    let v49:Obj:=.row 0 51 3 0 (some 1) [.agg [.nilp,.nils,.int .i64 cl]]
    let v50:Obj:=.row 0 57 6 0 (some 1) [encT t]
    change Wc Tryd.prog EU _ ((base 15 99).on [(5,.int .i64 w),(6,.ptr 0 0 0),(7,.ptr 1 0 0),(8,.ptr 2 0 0)]) (hp [v49,.row 0 54 1 0 (some 1) [.sl 3 0 0 (t1::r1).length none],v50,.row 0 57 6 0 none ((t1::r1).reverse.map encT)]) _ _ _
    rw [List.length_cons,List.reverse_cons]
    refine Wc.seq (Wc.seq ?_)
    let v51:Obj:=.row 0 54 1 0 (some 1) [.sl 3 0 0 (r1.length+1) none]
    let v52:Obj:=.row 0 57 6 0 none ((r1.reverse++[t1]).map encT)
    let v53:Heap:=(hp [v49,v51,v50,v52])
    refine Wc.wn0 [(5,(.int .i64 w)),(6,(.ptr 0 0 0)),(7,(.ptr 1 0 0)),(8,(.ptr 2 0 0)),(96,(encT t))] v53 ?_
    refine Wc.mid ((base 15 99).on [(5,.int .i64 w),(6,.ptr 0 0 0),(7,.ptr 1 0 0),(8,.ptr 2 0 0)]) v53 ?_ ?_
    ·refine Wc.wn0 [(5,(.int .i64 (w))),(6,(.ptr 0 0 0)),(7,(.ptr 1 0 0)),(8,(.ptr 4 0 0)),(96,(.agg [(.int .i64 (t.d.kind)),(.str (t.d.text)),(.int .i64 (t.d.n)),(.osl 4 (esD t.d)),(.bool (t.flat)),(.int .i64 (t.n))]))] (hp [.row 0 51 3 0 (some 1) [(.agg [.nilp,.nils,(.int .i64 (cl))])],.row 0 54 1 0 (some 1) [(.sl 3 0 0 (List.length r1+1) none)],.row 0 57 6 0 (some 1) [(encT t)],.row 0 57 6 0 none (List.map encT (List.reverse r1++[t1])),.row 0 57 6 0 (some 1) [(.agg [(.int .i64 (t.d.kind)),(.str (t.d.text)),(.int .i64 (t.d.n)),(.osl 4 (esD t.d)),(.bool (t.flat)),(.int .i64 (t.n))])]]) ?_
     exact Vw.gk [(0,false),(1,false),(4,false),(3,true)] [(0=0),(∀ (e:V),e∈List.map encT (List.reverse r1++[t1])→x2 (x4 3) (V.cells e)=true),(0=0),(0=0),(0=0)] (.cons (by omega) (.cons (by exact x3 (fun _=>rfl) _) (.cons (by omega) (.cons (by omega) (.cons (by omega) .nil)))))
    refine Wc.enter (Wl.s 0 [(5,(.int .i64 (w))),(6,(.ptr 0 0 0)),(7,(.ptr 1 0 0)),(8,(.ptr 2 0 0)),(26,(.tup [(encT t1),(.bool true)]))] (@Go.AM.cPop4 (Obj.row 0 51 3 0 (some 1) [V.agg [V.nilp,V.nils,V.int .i64 cl]]) (Obj.row 0 57 6 0 (some 1) [encT t]) (List.reverse r1) (List.length r1+1) (t1) hrr1 (by omega)) ?_)
    refine Wl.bn0 1 6 [(9,(.bool true))] (hp [.row 0 51 3 0 (some 1) [(.agg [.nilp,.nils,(.int .i64 (cl))])],.row 0 54 1 0 (some 1) [(.sl 3 0 0 (List.length (List.reverse r1)) none)],.row 0 57 6 0 (some 1) [(.agg [(.int .i64 (t1.d.kind)),(.str (t1.d.text)),(.int .i64 (t1.d.n)),(.osl 4 (esD t1.d)),(.bool (t1.flat)),(.int .i64 (t1.n))])],.row 0 57 6 0 none (List.map encT (List.reverse r1++[t1])),.row 0 57 6 0 (some 1) [(encT t1)]]) ?_
    refine Wl.dn 6 ?_
    refine zt0 (cur:=some t1) (L:=r1) (c:=cl) (es:=r1.reverse.map encT) (nL:=r1.reverse.length) (isb:=true) ?_ rfl (by simp) rfl hQ' (fun e=>by cases e) hlt
    refine Vw.trans (Vw.row (ver:=0) (ty:=57) (sz:=6) (pub:=0) (cap:=none) (es:=(r1.reverse++[t1]).map encT) 3 (r1.reverse.map encT) (by kernel_rfl) (Nat.zero_le _) (by simp) (by rw [List.map_append];exact zm2 z36)) ?_
    exact Vw.gk [(0,false),(1,false),(2,false),(3,true)] [(0=0),(∀ (e:V),e∈List.map encT (List.reverse r1)→x2 (x4 3) (V.cells e)=true),(0=0),(0=0),(0=0)] (.cons (by omega) (.cons (by exact x3 (fun _=>rfl) _) (.cons (by omega) (.cons (by omega) (.cons (by omega) .nil)))))
   | cons b o =>
    let v54:Obj:=.row 0 57 6 0 (some 1) [encT t]
    change Wc Tryd.prog EU _ ((base 15 99).on [(5,.int .i64 w),(6,.ptr 0 0 0),(7,.ptr 1 0 0),(8,.ptr 2 0 0)]) (hp [.row 0 51 3 0 (some 1) [.agg [.ptr 0 0 0,.sl 4 0 0 (b::o).length none,.int .i64 cl]],.row 0 54 1 0 (some 1) [.sl 3 0 0 (t1::r1).length none],v54,.row 0 57 6 0 none ((t1::r1).reverse.map encT),.row 0 5 1 0 none ((b::o).map bV)]) _ _ _
    have hne0:b::o≠[]:=by simp
    generalize b::o=o at *
    rw [List.length_cons,List.reverse_cons]
    refine Wc.seq (Wc.seq ?_)
    let v55:Obj:=.row 0 51 3 0 (some 1) [.agg [.ptr 0 0 0,.sl 4 0 0 o.length none,.int .i64 cl]]
    let v56:Obj:=.row 0 54 1 0 (some 1) [.sl 3 0 0 (r1.length+1) none]
    let v57:Obj:=.row 0 57 6 0 (some 1) [encT t]
    let v58:Obj:=.row 0 57 6 0 none ((r1.reverse++[t1]).map encT)
    let v59:Heap:=(hp [v55,v56,v57,v58,.row 0 5 1 0 none (o.map bV)])
    refine Wc.wn0 [(5,(.int .i64 w)),(6,(.ptr 0 0 0)),(7,(.ptr 1 0 0)),(8,(.ptr 2 0 0)),(96,(encT t))] v59 ?_
    refine Wc.mid ((base 15 99).on [(5,.int .i64 w),(6,.ptr 0 0 0),(7,.ptr 1 0 0),(8,.ptr 2 0 0)]) v59 ?_ ?_
    ·refine Wc.wn0 [(5,(.int .i64 (w))),(6,(.ptr 0 0 0)),(7,(.ptr 1 0 0)),(8,(.ptr 5 0 0)),(96,(.agg [(.int .i64 (t.d.kind)),(.str (t.d.text)),(.int .i64 (t.d.n)),(.osl 4 (esD t.d)),(.bool (t.flat)),(.int .i64 (t.n))]))] (hp [.row 0 51 3 0 (some 1) [(.agg [(.ptr 0 0 0),(.sl 4 0 0 (List.length o) none),(.int .i64 (cl))])],.row 0 54 1 0 (some 1) [(.sl 3 0 0 (List.length r1+1) none)],.row 0 57 6 0 (some 1) [(encT t)],.row 0 57 6 0 none (List.map encT (List.reverse r1++[t1])),.row 0 5 1 0 none (List.map bV o),.row 0 57 6 0 (some 1) [(.agg [(.int .i64 (t.d.kind)),(.str (t.d.text)),(.int .i64 (t.d.n)),(.osl 4 (esD t.d)),(.bool (t.flat)),(.int .i64 (t.n))])]]) ?_
     exact Vw.gk [(0,false),(1,false),(5,false),(3,true),(4,true)] [(0=0),(0=0),(0=0),(∀ (e:V),e∈List.map encT (List.reverse r1++[t1])→x2 (x4 3) (V.cells e)=true),(∀ (e:V),e∈List.map bV o→x2 (x4 3) (V.cells e)=true),(0=0),(0=0),(0=0)] (.cons (by omega) (.cons (by omega) (.cons (by omega) (.cons (by exact x3 (fun _=>rfl) _) (.cons (by exact x3 (fun _=>rfl) _) (.cons (by omega) (.cons (by omega) (.cons (by omega) .nil))))))))
    refine Wc.enter (Wl.s 0 [(5,(.int .i64 (w))),(6,(.ptr 0 0 0)),(7,(.ptr 1 0 0)),(8,(.ptr 2 0 0)),(26,(.tup [(encT t1),(.bool true)]))] (@Go.AM.cPop5 (Obj.row 0 51 3 0 (some 1) [V.agg [V.ptr 0 0 0,V.sl 4 0 0 (List.length o) none,V.int .i64 cl]]) (Obj.row 0 57 6 0 (some 1) [encT t]) (Obj.row 0 5 1 0 none (List.map bV o)) (List.reverse r1) (List.length r1+1) (t1) hrr1 (by omega)) ?_)
    refine Wl.bn0 1 6 [(9,(.bool true))] (hp [.row 0 51 3 0 (some 1) [(.agg [(.ptr 0 0 0),(.sl 4 0 0 (List.length o) none),(.int .i64 (cl))])],.row 0 54 1 0 (some 1) [(.sl 3 0 0 (List.length (List.reverse r1)) none)],.row 0 57 6 0 (some 1) [(.agg [(.int .i64 (t1.d.kind)),(.str (t1.d.text)),(.int .i64 (t1.d.n)),(.osl 4 (esD t1.d)),(.bool (t1.flat)),(.int .i64 (t1.n))])],.row 0 57 6 0 none (List.map encT (List.reverse r1++[t1])),.row 0 5 1 0 none (List.map bV o),.row 0 57 6 0 (some 1) [(encT t1)]]) ?_
    refine Wl.dn 6 ?_
    refine x04 (o:=o) (cur:=some t1) (L:=r1) (c:=cl) (es:=r1.reverse.map encT) (nL:=r1.reverse.length) (isb:=true) ?_ hne0 rfl (by simp) rfl hQ' (fun e=>by cases e) hlt
    refine Vw.trans (Vw.row (ver:=0) (ty:=57) (sz:=6) (pub:=0) (cap:=none) (es:=(r1.reverse++[t1]).map encT) 3 (r1.reverse.map encT) (by kernel_rfl) (Nat.zero_le _) (by simp) (by rw [List.map_append];exact zm2 z36)) ?_
    exact Vw.gk [(0,false),(1,false),(2,false),(3,true),(4,true)] [(0=0),(0=0),(0=0),(∀ (e:V),e∈List.map encT (List.reverse r1)→x2 (x4 3) (V.cells e)=true),(∀ (e:V),e∈List.map bV o→x2 (x4 3) (V.cells e)=true),(0=0),(0=0),(0=0)] (.cons (by omega) (.cons (by omega) (.cons (by omega) (.cons (by exact x3 (fun _=>rfl) _) (.cons (by exact x3 (fun _=>rfl) _) (.cons (by omega) (.cons (by omega) (.cons (by omega) .nil))))))))
end Go.AM
namespace Go.AM
open Go.Proofs
set_option maxRecDepth 100000
set_option maxHeartbeats 4000000
theorem xq8 (s:List UInt8) {i:Nat} (hi:i<s.length):s.take (i+1)=s.take i++[s.getD i 0]:=by
 rw [List.take_add_one,List.getD_eq_getElem?_getD,List.getElem?_eq_getElem hi];rfl
theorem x82 (s:List UInt8) (i:Nat) (c:UInt8):q8 s (i:Int)=(c.toNat:Int)↔s.getD i 0=c:=by
 unfold q8
 rw [Int.toNat_natCast]
 constructor
 ·intro h;exact UInt8.toNat_inj.1 (by exact_mod_cast h)
 ·intro h;rw [h]
def q38 (d:Dc) (col w:Int):Bool:=!k8 d&&decide (max 0 (min col 1073741824)+(wide (q01 (x8 d)):Int)≤max 0 (min w 10000))
theorem cFitsOne {d:Dc} {col w:Int} (hd:j7 d) (hs:szD d≤100000):Cp Tryd.prog EU 19 [encD d,.int .i64 col,.int .i64 w] (.bool (q38 d col w)):=by
 refine Cp.body (fn:=Tryd.f19) Tryd.func19 rfl (by kernel_rfl) ?_
 have hfl:=qf4 d
 have hwl:=q15 (q01 (x8 d))
 unfold q38
 by_cases hh:k8 d=true
 ·have hcf:Cp Tryd.prog EU 35 [encD d] (.tup [.str [],.bool false]):=by
   have:=qh9 hd hs
   rw [if_pos hh,hh] at this;exact this
  have hct:=cCutN (s:=[]) (by simp)
  rw [hh]
  refine Wc.seq ?_
  let v1:V:=(.agg [(.int .i64 (d.kind)),(.str (d.text)),(.int .i64 (d.n)),(.osl 4 (esD d))])
  refine Wc.wn0 [(0,v1),(1,(.int .i64 (col))),(2,(.int .i64 (w))),(3,(.ptr 0 0 0)),(6,(.bool false))] (hp [.row 0 26 4 0 (some 1) [v1]]) ?_
  refine Wc.seq (Wc.enter (Wl.b0 0 1 [(13,v1)] ?_))
  refine Wl.c 1 [(14,(.tup [(.str []),(.bool false)]))] (@hcf) ?_
  refine Wl.b0 2 7 [(7,(.str [])),(8,(.bool false))] ?_
  refine Wl.dn 7 (Wc.seq (Wc.enter (Wl.b0 0 1 [(18,(.str []))] ?_)))
  refine Wl.c 1 [(19,(.tup [(.str []),(.str []),(.bool false)]))] (@Go.AM.cCutN ([]) (by simp)) ?_
  refine Wl.b0 2 9 [(9,(.str []))] ?_
  refine Wl.dn 9 (Wc.seq (Wc.w0 [] ?_))
  refine Wc.ret ?_
  refine retX.mk (.bool false) ⟨rfl,rfl⟩ (by kernel_rfl) ?_
  kernel_rfl
 have hcf:Cp Tryd.prog EU 35 [encD d] (.tup [.str (x8 d),.bool true]):=by
  have:=qh9 hd hs
  rw [if_neg hh,Bool.eq_false_iff.2 hh] at this;exact this
 rw [Bool.eq_false_iff.2 hh]
 by_cases hf:(10:UInt8)∈x8 d
 ·obtain ⟨a,b,h1,h2,h3⟩:=z05 hf
  rw [h3] at hwl ⊢
  have hal:a.length≤100000:=by rw [h1] at hfl;simp at hfl;omega
  rw [h1] at hcf
  have hct:=cCutF (a:=a) (b:=b) h2 (by omega)
  generalize a++10::b=ab at *
  refine Wc.seq ?_
  let v2:V:=(.agg [(.int .i64 (d.kind)),(.str (d.text)),(.int .i64 (d.n)),(.osl 4 (esD d))])
  refine Wc.wn0 [(0,v2),(1,(.int .i64 (col))),(2,(.int .i64 (w))),(3,(.ptr 0 0 0)),(6,(.bool false))] (hp [.row 0 26 4 0 (some 1) [v2]]) ?_
  refine Wc.seq (Wc.enter (Wl.b0 0 1 [(13,v2)] ?_))
  refine Wl.c 1 [(14,(.tup [(.str ab),(.bool true)]))] (@hcf) ?_
  refine Wl.b0 2 7 [(7,(.str ab)),(8,(.bool true))] ?_
  refine Wl.dn 7 (Wc.seq (Wc.enter (Wl.b0 0 1 [(18,(.str ab))] ?_)))
  refine Wl.c 1 [(19,(.tup [(.str a),(.str b),(.bool true)]))] (@hct) ?_
  refine Wl.b0 2 9 [(9,(.str a))] ?_
  refine Wl.dn 9 (Wc.seq (Wc.enter (Wl.b0 0 6 [(24,(.bool true)),(27,(.int .i64 (max 0 (min col 1073741824)))),(28,(.str a))] ?_)))
  refine Wl.c 6 [(29,(.int .i64 ((wide a:Int))))] (@Go.AM.c16 (a) (by omega)) ?_
  refine Wl.bs 7 14 [(6,(.bool (decide (max 0 (min col 1073741824)+(wide a:Int)≤max 0 (min w 10000)))))] [(i64r (max (0:Int) (min col (1073741824:Int))+(wide a:Int)))] (.cons (by omega) .nil) ?_
  refine Wl.dn 14 (Wc.ret ?_)
  refine retX.mk (.bool (decide (max 0 (min col 1073741824)+(wide a:Int)≤max 0 (min w 10000)))) ⟨rfl,rfl⟩ (by kernel_rfl) ?_
  kernel_rfl
 have h3:q01 (x8 d)=x8 d:=by have:=qy0 hf [];rw [List.append_nil] at this;rw [this];simp [q01,z7]
 rw [h3] at hwl ⊢
 have hct:=cCutN hf
 generalize x8 d=f at *
 refine Wc.seq ?_
 let v3:V:=(.agg [(.int .i64 (d.kind)),(.str (d.text)),(.int .i64 (d.n)),(.osl 4 (esD d))])
 refine Wc.wn0 [(0,v3),(1,(.int .i64 (col))),(2,(.int .i64 (w))),(3,(.ptr 0 0 0)),(6,(.bool false))] (hp [.row 0 26 4 0 (some 1) [v3]]) ?_
 refine Wc.seq (Wc.enter (Wl.b0 0 1 [(13,v3)] ?_))
 refine Wl.c 1 [(14,(.tup [(.str f),(.bool true)]))] (@hcf) ?_
 refine Wl.b0 2 7 [(7,(.str f)),(8,(.bool true))] ?_
 refine Wl.dn 7 (Wc.seq (Wc.enter (Wl.b0 0 1 [(18,(.str f))] ?_)))
 refine Wl.c 1 [(19,(.tup [(.str f),(.str []),(.bool false)]))] (@hct) ?_
 refine Wl.b0 2 9 [(9,(.str f))] ?_
 refine Wl.dn 9 (Wc.seq (Wc.enter (Wl.b0 0 6 [(24,(.bool true)),(27,(.int .i64 (max 0 (min col 1073741824)))),(28,(.str f))] ?_)))
 refine Wl.c 6 [(29,(.int .i64 ((wide f:Int))))] (@Go.AM.c16 (f) (by omega)) ?_
 refine Wl.bs 7 14 [(6,(.bool (decide (max 0 (min col 1073741824)+(wide f:Int)≤max 0 (min w 10000)))))] [(i64r (max (0:Int) (min col (1073741824:Int))+(wide f:Int)))] (.cons (by omega) .nil) ?_
 refine Wl.dn 14 (Wc.ret ?_)
 refine retX.mk (.bool (decide (max 0 (min col 1073741824)+(wide f:Int)≤max 0 (min w 10000)))) ⟨rfl,rfl⟩ (by kernel_rfl) ?_
 kernel_rfl
end Go.AM
namespace Go.AM
open Go.Proofs
set_option maxRecDepth 100000
set_option maxHeartbeats 4000000
theorem xs3 {l:List Nat} {m:Nat} (h:∀ x,x∈l→x≤m):l.foldr max 0≤m:=by
 induction l with
 | nil=>exact Nat.zero_le _
 | cons y l IH =>
  rw [List.foldr_cons]
  have h1:=h y (by simp)
  have h2:=IH fun x hx=>h x (by simp [hx])
  omega
theorem ql0 {k n:Int} {t:List UInt8} {l:List Dc} {m:Nat} (h:∀ d,d∈l→pnD d≤m):pnD ⟨k,t,n,l⟩≤n.natAbs+m:=by
 rw [xm8]
 have:(l.map pnD).foldr max 0≤m:=xs3 fun x hx=>by
  obtain ⟨d,hd,rfl⟩:=List.mem_map.1 hx
  exact h d hd
 exact Nat.add_le_add_left this _
theorem j70 {l:List Dc} {m:Nat} (h:∀ d,d∈l→pnD d≤m):pnD (rowD l)≤m:=by
 have hf:∀ d,d∈l.filter (fun d=>!decide (d.kind=0))→pnD d≤m:=fun d hd=>h d (List.mem_filter.1 hd).1
 unfold rowD
 split
 ·have:=ql0 (k:=0) (n:=0) (t:=[]) (l:=[]) (m:=0) (fun d hd=>by cases hd)
  unfold dc0;simp at this;omega
 ·rename_i x e
  exact hf x (by rw [e];simp)
 ·rename_i l' e1 e2
  have:=ql0 (k:=7) (n:=0) (t:=[]) hf
  simpa using this
theorem j09 {l:List Dc} {a b m:Nat} (h:∀ d,d∈l→pnD d≤m):∀ d,d∈q28 l a b→pnD d≤m+7:=by
 have ht:∀ k d,d∈l.take k→pnD d≤m:=fun k d hd=>h d (List.mem_of_mem_take hd)
 have hd':∀ k d,d∈l.drop k→pnD d≤m:=fun k d hd=>h d (List.mem_of_mem_drop hd)
 have one:∀ (L:List Dc) (x:Dc),(∀ d,d∈L→pnD d≤m)→pnD x≤m+7→∀ d,d∈L++[x]→pnD d≤m+7:=fun L x h1 h2 d hd=>by
  rcases List.mem_append.1 hd with q | q
  ·have:=h1 d q;omega
  ·rw [List.mem_singleton] at q;subst q;exact h2
 have leaf:∀ k t,pnD ⟨k,t,0,[]⟩≤m+7:=fun k t=>by
  have:=ql0 (k:=k) (n:=0) (t:=t) (l:=[]) (m:=0) (fun d hd=>by cases hd)
  simp at this;omega
 unfold q28
 split
 ·exact one _ _ h (leaf _ _)
 ·split
  ·exact one _ _ h (leaf _ _)
  ·split
   ·exact one _ _ h (leaf _ _)
   ·split
    ·refine one _ _ (ht _) ?_
     have h1:=ql0 (k:=7) (n:=0) (t:=[]) (hd' (l.length-min (b%4) l.length))
     have h2:=ql0 (k:=5) (n:=((b%5:Nat):Int)-2+5*((b%2:Nat):Int)) (t:=[]) (l:=[⟨7,[],0,l.drop (l.length-min (b%4) l.length)⟩]) (m:=m) (fun d hd=>by
      rw [List.mem_singleton] at hd
      subst hd
      simpa using h1)
     omega
    ·split
     ·refine one _ _ (ht _) ?_
      have h1:=ql0 (k:=7) (n:=0) (t:=[]) (hd' (l.length-min (b%4) l.length))
      have h2:=ql0 (k:=6) (n:=0) (t:=[]) (l:=[⟨7,[],0,l.drop (l.length-min (b%4) l.length)⟩]) (m:=m) (fun d hd=>by
       rw [List.mem_singleton] at hd
       subst hd
       simpa using h1)
      simp at h2;omega
     ·refine one _ _ (ht _) ?_
      have:=j70 (hd' (l.length-min (b%4) l.length));omega
theorem xt1 (c:List UInt8):∀ n d,d∈q82 c n→pnD d≤7*n:=by
 intro n
 induction n with
 | zero=>intro d hd;cases hd
 | succ n IH =>
  intro d hd
  have:=j09 IH d hd
  omega
theorem xr5 (c:List UInt8):pnD (qs0 c)≤280:=by
 have h:=ql0 (k:=7) (n:=0) (t:=[]) (xt1 c (docN c))
 have:docN c≤40:=Nat.min_le_right _ _
 unfold qs0
 simp at h;omega
theorem j04 {w:Int}:∀ (m:Nat) (l:List Th),w8 l=m→(∀ t,t∈l→okL t)→∀ col,(layS w l col).length≤400*sumT l:=by
 intro m
 induction m using Nat.strongRecOn with
 | _ m IH =>
  intro l hm ho col
  cases l with
  | nil=>rw [layS];simp
  | cons t r =>
   have hr:∀ u,u∈r→okL u:=fun u hu=>ho u (by simp [hu])
   have h1:∀ col,(layS w r col).length≤400*sumT r:=IH _ (by rw [← hm];exact y9 t r) r rfl hr
   have h2:∀ fl col,(layS w (z6 t fl++r) col).length≤400*sumT (z6 t fl++r):=fun fl=>IH _ (by rw [← hm];exact q02 t _ r) _ rfl fun u hu=>by
    rcases List.mem_append.1 hu with q | q
    ·exact zd7 (ho t (by simp)) fl u q
    ·exact hr u q
   have h3:∀ fl,sumT (z6 t fl++r)≤szD t.d+sumT r:=fun fl=>by
    rw [q57]
    have:=q91 t fl;omega
   have h4:=y3 t.d
   have h5:=(ho t (by simp)).2
   have h6:(endS t.n).length≤321:=by unfold endS;rw [List.length_cons,q37];omega
   have h7:=q07 t.d
   rw [qb6,j5]
   split
   ·rw [List.length_append];have:=h1 (colS t.d.text col);omega
   ·split
    ·split
     ·rw [List.length_append];have:=h1 (t.n.toNat:Int);omega
     ·split
      ·rw [List.length_cons];have:=h1 (col+1);omega
      ·have:=h1 col;omega
    ·split
     ·split
      ·have:=h2 true col;have:=h3 true;omega
      ·have:=h2 t.flat col;have:=h3 t.flat;omega
     ·have:=h2 t.flat col;have:=h3 t.flat;omega
theorem j02 {w:Int} {d:Dc} (hr:j7 d) (hs:szD d≤2000) (hp:pnD d≤320):(layS w [⟨d,false,0⟩] 0).length≤800000:=by
 have:=j04 (w:=w) _ [⟨d,false,0⟩] rfl (fun t ht=>by
  rw [List.mem_singleton] at ht
  subst ht
  exact ⟨hr,by simpa using hp⟩) 0
 rw [j5,q93] at this
 simp only at this
 omega
def layD (w:Int) (d:Dc):List UInt8:=layS (max 0 (min w 10000)) [⟨d,false,0⟩] 0
theorem cLay {d:Dc} {wd:Int} (hr:j7 d) (hs:szD d≤2000) (hpn:pnD d≤320):Cp Tryd.prog EU 15 [encD d,.int .i64 wd] (.str (layD wd d)):=xx2 hr hs hpn
theorem xq7 {w:Int} {d:Dc} (hr:j7 d) (hs:szD d≤2000) (hp:pnD d≤320):(layD w d).length≤800000:=j02 hr hs hp
end Go.AM
namespace Go.AM
open Go.Proofs
set_option maxRecDepth 100000
set_option maxHeartbeats 4000000
theorem cClip {w:Int}:Cp Tryd.prog EU 42 [.int .i64 w] (.int .i64 (max 0 (min w 10000))):=by
 refine Cp.body (fn:=Tryd.f42) Tryd.func42 rfl (by kernel_rfl) ?_
 refine Wc.seq (Wc.wn0 [(0,(.int .i64 (w))),(2,(.int .i64 0))] Heap.empty ?_)
 refine Wc.seq (Wc.w0 [(2,(.int .i64 (max 0 (min w 10000))))] ?_)
 refine Wc.ret ?_
 refine retX.mk (.int .i64 (max 0 (min w 10000))) ⟨rfl,rfl⟩ (by kernel_rfl) ?_
 kernel_rfl
theorem j29 {s:List UInt8} {i:Nat} (h:(10:UInt8)∉s.take i) (hi:i<s.length) (hc:s.getD i 0=10):z0 10 s 0=(i:Int):=by
 have hm:(10:UInt8)∈s:=by
  rw [← hc,List.getD_eq_getElem?_getD,List.getElem?_eq_getElem hi]
  exact List.getElem_mem hi
 obtain ⟨a,t,h1,h2,h3⟩:=q77 s hm
 rw [h3 0]
 have:a.length=i:=by
  rcases Nat.lt_trichotomy a.length i with q | q | q
  ·exfalso;apply h
   rw [h1,List.take_append,List.take_of_length_le (by omega)]
   apply List.mem_append.2;right
   obtain ⟨k,hk⟩:∃ k,i-a.length=k+1:=⟨i-a.length-1,by omega⟩
   rw [hk];simp
  ·exact q
  ·exfalso;apply h2
   rw [h1,List.getD_eq_getElem?_getD,List.getElem?_append_left q,List.getElem?_eq_getElem q] at hc
   rw [← hc];exact List.getElem_mem q
 omega
theorem xb2 {s:List UInt8} {i:Nat} (h:(10:UInt8)∉s.take i) (hi:¬ i<s.length):z0 10 s 0=-1:=by
 rw [List.take_of_length_le (by omega)] at h
 exact qf2 s h 0
theorem xy6 {s:List UInt8} {i:Nat} (h:(10:UInt8)∉s.take i) (hi:i<s.length) (hc:s.getD i 0≠10):(10:UInt8)∉s.take (i+1):=by
 rw [xq8 s hi,List.mem_append,List.mem_singleton]
 rintro (q | q)
 ·exact h q
 ·exact hc q.symm
theorem cFeed (s:List UInt8) (hs:s.length≤1099511627776):Cp Tryd.prog EU 48 [.str s] (.int .i64 (z0 10 s 0)):=by
 refine Cp.body (fn:=Tryd.f48) Tryd.func48 rfl (by kernel_rfl) ?_
 refine Wc.seq (Wc.wn0 [(0,(.str s)),(2,(.int .i64 0))] Heap.empty ?_)
 refine Wc.seq (Wc.seq (Wc.w0 [(3,(.int .i64 0))] ?_))
 refine Wc.block ?_
 refine Wc.loop (α:=Nat) (fun i=>(base 48 15).on [(0,.str s),(2,.int .i64 0),(3,.int .i64 (i:Int))]) (fun _=>Heap.empty) (fun i=>i≤s.length∧(10:UInt8)∉s.take i) (fun i=>s.length-i) 0 (Le.on [0,2,3] (by kernel_rfl)) rfl ⟨Nat.zero_le _,by simp⟩ ?_
 intro i hi
 obtain ⟨hi,hno⟩:=hi
 refine Wc.seq (Wc.seq (Wc.wn0 [(0,(.str s)),(2,(.int .i64 0)),(3,(.int .i64 (i:Int))),(7,(.bool (decide ((i:Int)<(List.length s:Int)))))] Heap.empty ?_))
 refine Wc.cq (p:=(i:Int)<(List.length s:Int)) (fun c1=>?_) (fun c1=>?_)
 ·refine Wc.skip (Wc.seq (Wc.block (Wc.seq (Wc.w [(13,(.bool (decide (q8 s (i:Int)=10))))] [((0≤(i:Int))∧((i:Int)<(List.length s:Int)))] (.cons (by omega) .nil) ?_))))
  refine Wc.cq (p:=q8 s (i:Int)=10) (fun c2=>?_) (fun c2=>?_)
  ·refine Wc.seq (Wc.w0 [(2,(.int .i64 (i:Int)))] ?_)
   refine Wc.ret (z8.ret ?_)
   refine z8.ret ?_
   refine retX.mk (.int .i64 (i:Int)) ⟨rfl,rfl⟩ (by kernel_rfl) ?_
   have e:=(x82 s i 10).1 c2
   rw [j29 hno (by omega) e];rfl
  refine Wc.skip (Wc.w [(3,(.int .i64 ((i:Int)+1)))] [(i64r ((i:Int)+1))] (.cons (by omega) .nil) ?_)
  have hi':i<s.length:=by omega
  exact ⟨i+1,Le.on [0,2,3] (by kernel_rfl),rfl,⟨hi',xy6 hno hi' fun e=>c2 ((x82 s i 10).2 e)⟩,by omega⟩
 refine Wc.exit (z8.here (Wc.seq (Wc.w0 [(2,(.int .i64 (-1)))] ?_)))
 refine Wc.ret ?_
 refine retX.mk (.int .i64 (-1)) ⟨rfl,rfl⟩ (by kernel_rfl) ?_
 rw [xb2 hno (by omega)];rfl
theorem cEnd {n:Int} (hn:n≤100000):Cp Tryd.prog EU 44 [.int .i64 n] (.str (endS n)):=by
 refine Cp.body (fn:=Tryd.f44) Tryd.func44 rfl (by kernel_rfl) ?_
 refine Wc.seq (Wc.wn0 [(0,(.int .i64 (n))),(2,(.str []))] Heap.empty ?_)
 refine Wc.seq (Wc.w0 [(3,(.str [10]))] ?_)
 refine Wc.seq (Wc.seq (Wc.w0 [(4,(.int .i64 0))] ?_))
 refine Wc.block ?_
 refine Wc.loop (α:=Nat) (fun i=>(base 44 13).on [(0,.int .i64 n),(2,.str []),(3,.str (10::j2 i)),(4,.int .i64 (i:Int))]) (fun _=>Heap.empty) (fun i=>i≤n.toNat) (fun i=>n.toNat-i) 0 (Le.on [0,2,3,4] (by kernel_rfl)) rfl (Nat.zero_le _) ?_
 intro i hi
 have hbl:=q37 i
 generalize hB:j2 i=B at *
 refine Wc.seq (Wc.seq (Wc.wn0 [(0,(.int .i64 (n))),(2,(.str [])),(3,(.str (10::B))),(4,(.int .i64 (i:Int))),(7,(.bool (decide ((i:Int)<n))))] Heap.empty ?_))
 refine Wc.cq (p:=(i:Int)<n) (fun c1=>?_) (fun c1=>?_)
 ·refine Wc.skip (Wc.seq (Wc.block (Wc.w [(3,(.str (10::B++[32])))] [(List.length ((10:UInt8)::B)+1≤(1099511627776:Nat))] (.cons (by (simp only [List.length_append,List.length_cons,List.length_nil];omega)) .nil) ?_)))
  refine Wc.w [(4,(.int .i64 ((i:Int)+1)))] [(i64r ((i:Int)+1))] (.cons (by omega) .nil) ?_
  have hi':i<n.toNat:=by omega
  refine ⟨i+1,?_,rfl,hi',by omega⟩
  rw [zq3,hB]
  exact Le.on [0,2,3,4] (by kernel_rfl)
 refine Wc.exit (z8.here (Wc.seq (Wc.w0 [(2,(.str (10::B)))] ?_)))
 refine Wc.ret ?_
 refine retX.mk (.str (10::B)) ⟨rfl,rfl⟩ (by kernel_rfl) ?_
 have e:i=n.toNat:=by omega
 unfold endS
 rw [← e,hB];rfl
end Go.AM
namespace Go.AM
open Go.Proofs
set_option maxRecDepth 100000
set_option maxHeartbeats 4000000
theorem zw0 {a:List UInt8} (b:List UInt8):∀ k,q21 k (a++10::b)=q21 0 b:=by
 induction a with
 | nil=>intro k;simp [q21]
 | cons c a IH=>intro k;simp only [List.cons_append,q21];split <;> exact IH _
theorem xu9 {a b:List UInt8} (col:Int):colS (a++10::b) col=colS b 0:=by
 have h1:q65 (a++10::b)=true:=by rw [q46];simp
 have h2:q66 (a++10::b)=q66 b:=zw0 b 0
 have h3:q70 (a++10::b)=q70 b:=by
  unfold q70
  have h4:=xa7 b
  rw [h2,show (a++10::b).length-q66 b=a.length+(1+(b.length-q66 b)) by simp;omega,List.drop_append,List.drop_eq_nil_of_le (by omega),List.nil_append]
  rw [show a.length+(1+(b.length-q66 b))-a.length=(b.length-q66 b)+1 by omega];rfl
 unfold colS
 rw [h1,if_pos rfl,h3]
 split
 ·rfl
 ·rename_i h
  have hn:(10:UInt8)∉b:=fun q=>h ((q46 b).2 q)
  have:q70 b=b:=by unfold q70 q66;rw [x24 b hn];simp
  rw [this];omega
theorem xm6 {s:List UInt8} {col:Int} (h:z0 10 s 0<0):colS s col=col+(wide s:Int):=by
 have:(10:UInt8)∉s:=fun q=>by
  obtain ⟨a,t,h1,h2,h3⟩:=q77 s q
  have:=h3 0;omega
 unfold colS
 rw [if_neg (fun q=>this ((q46 s).1 q))]
theorem xo2 {s:List UInt8} {col:Int} (h:¬ z0 10 s 0<0):colS s col=colS (s.drop (Int.toNat (z0 10 s 0+1))) 0:=by
 have hm:(10:UInt8)∈s:=by
  refine Classical.byContradiction fun q=>?_
  have:=qf2 s q 0;omega
 obtain ⟨a,t,h1,h2,h3⟩:=q77 s hm
 have h3:=h3 0
 rw [h3,show Int.toNat (((a.length+0:Nat):Int)+1)=a.length+1 by omega]
 conv=>lhs;rw [h1]
 rw [xu9,h1,List.drop_append,List.drop_eq_nil_of_le (by omega),List.nil_append,show a.length+1-a.length=1 by omega];rfl
theorem xx5:∀ (m:Nat) (s:List UInt8),s.length≤m→m≤1000→∀ col:Int,0≤col→col≤1000000000→Cp Tryd.prog EU 43 [.str s,.int .i64 col] (.int .i64 (colS s col)):=by
 intro m
 induction m using Nat.strongRecOn with
 | _ m IH =>
 intro s hs hm col h0 h1
 have hle:=qp0 s
 have hrec:¬ z0 10 s 0<0→Cp Tryd.prog EU 43 [.str (s.drop (Int.toNat (z0 10 s 0+1))),.int .i64 0] (.int .i64 (colS (s.drop (Int.toNat (z0 10 s 0+1))) 0)):=fun q=>IH (m-1) (by omega) _ (by rw [List.length_drop];omega) (by omega) 0 (by omega) (by omega)
 have hw:=q15 s
 have cF:=cFeed s (by omega)
 have cW:=c23 s (by omega)
 clear IH
 refine Cp.body (fn:=Tryd.f43) Tryd.func43 rfl (by kernel_rfl) ?_
 refine Wc.seq (Wc.wn0 [(0,(.str s)),(1,(.int .i64 (col))),(4,(.int .i64 0))] Heap.empty ?_)
 refine Wc.seq (Wc.enter (Wl.b0 0 1 [(6,(.str s))] ?_))
 refine Wl.c 1 [(7,(.int .i64 (z0 10 s 0)))] (@Go.AM.cFeed (s) (by omega)) ?_
 refine Wl.b0 2 3 [(5,(.int .i64 (z0 10 s 0)))] ?_
 refine Wl.dn 3 (Wc.seq (Wc.seq (Wc.w0 [(9,(.bool (decide (z0 10 s 0<0))))] ?_)))
 refine Wc.cq (p:=z0 10 s 0<0) (fun c1=>?_) (fun c1=>?_)
 ·refine Wc.seq (Wc.enter (Wl.b0 0 2 [(10,(.int .i64 (col))),(11,(.str s))] ?_))
  refine Wl.c 2 [(12,(.int .i64 ((wide s:Int))))] (@Go.AM.c23 (s) (by omega)) ?_
  refine Wl.bs 3 5 [(4,(.int .i64 (col+(wide s:Int))))] [(i64r (col+(wide s:Int)))] (.cons (by omega) .nil) ?_
  refine Wl.dn 5 (Wc.ret ?_)
  refine retX.mk (.int .i64 (col+(wide s:Int))) ⟨rfl,rfl⟩ (by kernel_rfl) ?_
  rw [xm6 c1];rfl
 refine Wc.skip (Wc.seq (Wc.enter (Wl.bs 0 4 [(17,(.str (List.drop (Int.toNat (z0 10 s 0+1)) s)))] [(i64r (z0 10 s (0:Nat)+1)),(((0:Int)≤z0 10 s (0:Nat)+1)∧(z0 10 s (0:Nat)+1≤(List.length s:Int)))] (.cons (by omega) (.cons (by omega) .nil)) ?_)))
 refine Wl.c 4 [(18,(.int .i64 (colS (List.drop (Int.toNat (z0 10 s 0+1)) s) 0)))] (@hrec c1) ?_
 refine Wl.b0 5 6 [(4,(.int .i64 (colS (List.drop (Int.toNat (z0 10 s 0+1)) s) 0)))] ?_
 refine Wl.dn 6 (Wc.ret ?_)
 refine retX.mk (.int .i64 (colS (List.drop (Int.toNat (z0 10 s 0+1)) s) 0)) ⟨rfl,rfl⟩ (by kernel_rfl) ?_
 rw [xo2 c1];rfl
end Go.AM
namespace Go.AM
open Go.Proofs
set_option maxRecDepth 100000
set_option maxHeartbeats 4000000
theorem j66 {xs bs:List Th} (ha:xs.length≤100000) (hb:bs.length≤100000):Cp Tryd.prog EU 45 [.osl 6 (xs.map encT),.osl 6 (bs.map encT)] (.osl 6 ((xs++bs).map encT)):=by
 refine Cp.bodyG (fn:=Tryd.f45) Tryd.func45 rfl (by kernel_rfl) ?_
 rw [List.map_append]
 have h1:(xs.map encT).length≤100000:=by rw [List.length_map];exact ha
 have h2:(bs.map encT).length≤100000:=by rw [List.length_map];exact hb
 have g1:∀ e,e∈xs.map encT→x2 (x4 3) e.cells=true:=x3 (fun a=>rfl) xs
 have g2:∀ e,e∈bs.map encT→x2 (x4 3) e.cells=true:=x3 (fun a=>rfl) bs
 generalize hAA:xs.map encT=A at *
 generalize hCC:bs.map encT=C at *
 by_cases hA:A=[]
 ·subst hA
  refine Wc.seq (Wc.wn0 [(0,(.osl 6 [])),(1,(.osl 6 (C))),(4,.nils)] Heap.empty ?_)
  refine Wc.seq (Wc.w0 [(5,.nils)] ?_)
  refine Wc.seq (Wc.enter (Wl.b0 0 2 [(6,.nils),(7,(.osl 6 []))] ?_))
  refine Wl.append (b:=(base 45 13)) (t:=70) (x:=.nils) (y:=.osl 6 []) (d:=some 8) 2 [1,4,8] [(1,(.osl 6 (C))),(4,.nils),(8,.nils)] (by kernel_rfl) (show AM.append Tryd.prog 70 Heap.empty .nils (.osl 6 [])=.val .nils Heap.empty by kernel_rfl) (by kernel_rfl) ?_
  by_cases hC:C=[]
  ·subst hC
   refine Wl.bn0 3 4 [(1,(.osl 6 [])),(4,.nils),(5,.nils)] Heap.empty ?_
   refine Wl.dn 4 (Wc.seq (Wc.enter (Wl.b0 0 2 [(9,.nils),(10,(.osl 6 []))] ?_)))
   refine Wl.append (b:=(base 45 13)) (t:=70) (x:=.nils) (y:=.osl 6 []) (d:=some 11) 2 [4,11] [(4,.nils),(11,.nils)] (by kernel_rfl) (show AM.append Tryd.prog 70 Heap.empty .nils (.osl 6 [])=.val .nils Heap.empty by kernel_rfl) (by kernel_rfl) ?_
   refine Wl.bn0 3 4 [(4,.nils),(5,.nils)] Heap.empty ?_
   refine Wl.dn 4 (Wc.seq (Wc.w0 [] ?_))
   refine Wc.ret ?_
   refine retX.mk .nils ⟨rfl,rfl⟩ (by kernel_rfl) ?_
   exact ⟨.nils,rfl,.nils 6⟩
  refine Wl.bn0 3 4 [(1,(.osl 6 (C))),(4,.nils),(5,.nils)] Heap.empty ?_
  refine Wl.dn 4 (Wc.seq (Wc.wn [(5,(.sl 0 0 0 (List.length C) none))] (hp [.row 0 69 6 0 none (C)]) [((C≠[])∧((List.length C≤(1099511627776:Nat))∧(List.length C*72≤(1099511627776:Nat))))] (.cons (by exact ⟨by assumption,by omega,by omega⟩) .nil) ?_))
  refine Wc.seq (Wc.w0 [(4,(.sl 0 0 0 (List.length C) none))] ?_)
  refine Wc.ret ?_
  refine retX.mk (.sl 0 0 0 (List.length C) none) ⟨rfl,rfl⟩ (by kernel_rfl) ?_
  rw [List.nil_append,← hCC]
  exact ⟨_,q94 (f:=encT) (fun seen a h=>qq3 seen a h) (h:=hp [.row 0 69 6 0 none (List.map encT bs)]) (r:=0) (ver:=0) (ty:=69) (sz:=6) (pb:=0) (cap:=none) (l:=bs) (es:=List.map encT bs) (by kernel_rfl) rfl (by rw [List.length_map]),.gsl⟩
 refine Wc.seq (Wc.wn0 [(0,(.osl 6 (A))),(1,(.osl 6 (C))),(4,.nils)] Heap.empty ?_)
 refine Wc.seq (Wc.w0 [(5,.nils)] ?_)
 refine Wc.seq (Wc.wn [(5,(.sl 0 0 0 (List.length A) none))] (hp [.row 0 69 6 0 none (A)]) [((A≠[])∧((List.length A≤(1099511627776:Nat))∧(List.length A*72≤(1099511627776:Nat))))] (.cons (by exact ⟨by assumption,by omega,by omega⟩) .nil) ?_)
 refine Wc.seq ?_
 by_cases hC:C=[]
 ·subst hC
  refine Wc.enter (Wl.bn0 0 2 [(4,.nils),(9,(.sl 0 0 0 (List.length A) none)),(10,(.osl 6 []))] (hp [.row 0 69 6 0 none (A)]) ?_)
  refine Wl.append (b:=(base 45 13)) (t:=70) (x:=.sl 0 0 0 (List.length A) none) (y:=.osl 6 []) (d:=some 11) 2 [4,11] [(4,.nils),(11,.sl 0 0 0 (List.length A) none)] (by kernel_rfl) (show AM.append Tryd.prog 70 (hp [.row 0 69 6 0 none (A)]) (.sl 0 0 0 (List.length A) none) (.osl 6 [])=.val (.sl 0 0 0 (List.length A) none) (hp [.row 0 69 6 0 none (A)]) by kernel_rfl) (by kernel_rfl) ?_
  refine Wl.bn0 3 4 [(4,.nils),(5,(.sl 0 0 0 (List.length A) none))] (hp [.row 0 69 6 0 none (A)]) ?_
  refine Wl.dn 4 (Wc.seq (Wc.w0 [(4,(.sl 0 0 0 (List.length A) none))] ?_))
  refine Wc.ret ?_
  refine retX.mk (.sl 0 0 0 (List.length A) none) ⟨rfl,rfl⟩ (by kernel_rfl) ?_
  rw [List.append_nil,← hAA]
  exact ⟨_,q94 (f:=encT) (fun seen a h=>qq3 seen a h) (h:=hp [.row 0 69 6 0 none (List.map encT xs)]) (r:=0) (ver:=0) (ty:=69) (sz:=6) (pb:=0) (cap:=none) (l:=xs) (es:=List.map encT xs) (by kernel_rfl) rfl (by rw [List.length_map]),.gsl⟩
 refine Wc.wn [(5,(.sl 0 1 0 (List.length A+List.length C) none))] (hp [.row 1 69 6 0 none (A++C)]) [(((0:Nat)=0)∧((C≠[])∧((List.length A=List.length A)∧(((0:Nat)≤List.length A)∧((List.length A+List.length C≤(1099511627776:Nat))∧((List.length A+List.length C)*72≤(1099511627776:Nat)))))))] (.cons (by exact ⟨rfl,by assumption,by omega,by omega,by omega,by omega⟩) .nil) ?_
 refine Wc.seq (Wc.w0 [(4,(.sl 0 1 0 (List.length A+List.length C) none))] ?_)
 refine Wc.ret ?_
 refine retX.mk (.sl 0 1 0 (List.length A+List.length C) none) ⟨rfl,rfl⟩ (by kernel_rfl) ?_
 have e:A++C=(xs++bs).map encT:=by rw [List.map_append,hAA,hCC]
 have e2:List.length A+List.length C=(xs++bs).length:=by rw [← hAA,← hCC];simp
 rw [e]
 exact ⟨_,q94 (f:=encT) (fun seen a h=>qq3 seen a h) (h:=hp [.row 1 69 6 0 none (List.map encT (xs++bs))]) (r:=0) (ver:=1) (ty:=69) (sz:=6) (pb:=0) (cap:=none) (l:=xs++bs) (es:=List.map encT (xs++bs)) (by kernel_rfl) rfl e2,.gsl⟩
end Go.AM
namespace Go.AM
open Go.Proofs
set_option maxRecDepth 100000
set_option maxHeartbeats 4000000
noncomputable def rkS (m:Int) (i:Nat):Fr:=(base 46 39).on [(1,.ptr 0 0 0),(3,match i with | 0=>.nils | _+1=>.sl 1 0 0 i none),(4,.int .i64 m),(5,.int .i64 (i:Int))]
noncomputable def rkH (t:Th) (i:Nat):Heap:=match i with | 0=>hp [.row 0 69 6 0 (some 1) [encT t]] | _+1=>hp [.row 0 69 6 0 (some 1) [encT t],.row 0 69 6 0 none (((z6 t t.flat).take i).map encT)]
theorem zz3 {m:Int} {i:Nat} (h:0<i):rkS m i=(base 46 39).on [(1,.ptr 0 0 0),(3,.sl 1 0 0 i none),(4,.int .i64 m),(5,.int .i64 (i:Int))]:=by
 cases i with
 | zero=>cases h
 | succ i=>rfl
theorem zy0 {t:Th} {i:Nat} (h:0<i):rkH t i=hp [.row 0 69 6 0 (some 1) [encT t],.row 0 69 6 0 none (((z6 t t.flat).take i).map encT)]:=by
 cases i with
 | zero=>cases h
 | succ i=>rfl
theorem cRKids {t:Th} (hr:j7 t.d) (hl:t.d.kids.length≤100000) (hn:-1000000000≤t.n+t.d.n∧t.n+t.d.n≤1000000000) (hn2:-1000000000≤t.n∧t.n≤1000000000):Cp Tryd.prog EU 46 [encT t] (.osl 6 ((z6 t t.flat).map encT)):=by
 refine Cp.bodyG (fn:=Tryd.f46) Tryd.func46 rfl (by kernel_rfl) ?_
 have hk5:t.d.kind≠5→t.d.n=0:=fun h=>by
  have:=hr;rw [j7] at this
  exact Classical.byContradiction fun q=>h (this.2.2.2.1 q)
 have hln:=qp2 t.d
 refine Wc.seq (Wc.wn0 [(0,(.agg [(.int .i64 (t.d.kind)),(.str (t.d.text)),(.int .i64 (t.d.n)),(.osl 4 (esD t.d)),(.bool (t.flat)),(.int .i64 (t.n))])),(1,(.ptr 0 0 0)),(2,.nils)] (hp [.row 0 69 6 0 (some 1) [(.agg [(.int .i64 (t.d.kind)),(.str (t.d.text)),(.int .i64 (t.d.n)),(.osl 4 (esD t.d)),(.bool (t.flat)),(.int .i64 (t.n))])]]) ?_)
 refine Wc.seq (Wc.w0 [(3,.nils)] ?_)
 refine Wc.seq (Wc.w0 [(4,(.int .i64 (t.n)))] ?_)
 refine Wc.seq (Wc.mid ((base 46 39).on [(1,.ptr 0 0 0),(3,.nils),(4,.int .i64 (t.n+t.d.n))]) (hp [.row 0 69 6 0 (some 1) [encT t]]) ?_ ?_)
 ·refine Wc.seq (Wc.wn0 [(0,(.agg [(.int .i64 (t.d.kind)),(.str (t.d.text)),(.int .i64 (t.d.n)),(.osl 4 (esD t.d)),(.bool (t.flat)),(.int .i64 (t.n))])),(1,(.ptr 0 0 0)),(2,.nils),(3,.nils),(4,(.int .i64 (t.n))),(11,(.bool (decide (t.d.kind=5))))] (hp [.row 0 69 6 0 (some 1) [(.agg [(.int .i64 (t.d.kind)),(.str (t.d.text)),(.int .i64 (t.d.n)),(.osl 4 (esD t.d)),(.bool (t.flat)),(.int .i64 (t.n))])]]) ?_)
  refine Wc.cq (p:=t.d.kind=5) (fun c1=>?_) (fun c1=>?_)
  ·refine Wc.w [(4,(.int .i64 (t.n+t.d.n)))] [(i64r (t.n+t.d.n))] (.cons (by omega) .nil) ?_
   exact Vw.gk [(0,false)] [(0=0)] (.cons (by omega) .nil)
  refine Wc.skip ?_
  refine Vw.trans (Vw.gc (b:=(base 46 39)) [(0,false)] [1,3,4] [(1,(.ptr 0 0 0)),(3,.nils),(4,(.int .i64 (t.n)))] [(1,(.ptr 0 0 0)),(3,.nils),(4,(.int .i64 (t.n)))] [.row 0 69 6 0 (some 1) [(.agg [(.int .i64 (t.d.kind)),(.str (t.d.text)),(.int .i64 (t.d.n)),(.osl 4 (esD t.d)),(.bool (t.flat)),(.int .i64 (t.n))])]] ⟨rfl,rfl,rfl⟩ (by kernel_rfl) (by kernel_rfl) (by kernel_rfl) (by kernel_rfl) [((0:Nat)=0)] (by kernel_rfl) (.cons (by omega) .nil)) ?_
  rw [show t.n+t.d.n=t.n by rw [hk5 c1,Int.add_zero]]
  exact Vw.eq (by kernel_rfl) (by kernel_rfl)
 refine Wc.seq (Wc.seq (Wc.wn0 [(1,(.ptr 0 0 0)),(3,.nils),(4,(.int .i64 (t.n+t.d.n))),(5,(.int .i64 0))] (hp [.row 0 69 6 0 (some 1) [(encT t)]]) ?_))
 refine Wc.block ?_
 have hb:-1000000000≤t.n+t.d.n∧t.n+t.d.n≤1000000000:=hn
 generalize hm:t.n+t.d.n=m at *
 refine Wc.loopV (α:=Nat) (fun i=>rkS m i) (fun i=>rkH t i) (fun i=>i≤t.d.kids.length) (fun i=>t.d.kids.length-i) 0 (Vw.le (Le.on [1,3,4,5] (by kernel_rfl))) (Nat.zero_le _) ?_
 intro i hi
 have hkl:(z6 t t.flat).length=t.d.kids.length:=by unfold z6;rw [List.length_map]
 rcases Nat.eq_zero_or_pos i with h0 | h0
 ·subst h0
  change Wc Tryd.prog EU _ ((base 46 39).on [(1,.ptr 0 0 0),(3,.nils),(4,.int .i64 m),(5,.int .i64 ((0:Nat):Int))]) (hp [.row 0 69 6 0 (some 1) [encT t]]) _ _ _
  refine Wc.seq (Wc.seq (Wc.wn0 [(1,(.ptr 0 0 0)),(3,.nils),(4,(.int .i64 (m))),(5,(.int .i64 0)),(22,(.bool (decide (0<(List.length (esD t.d):Int)))))] (hp [.row 0 69 6 0 (some 1) [(encT t)]]) ?_))
  refine Wc.cq (p:=0<(List.length (esD t.d):Int)) (fun c1=>?_) (fun c1=>?_)
  ·refine Wc.skip (Wc.seq (Wc.block (Wc.drawn0 (by kernel_rfl) ?_)))
   refine Dl.bs 0 6 [(25,.nils),(30,(.gptr 4 (esD t.d) 0))] [(((0:Int)≤0)∧(0<(List.length (esD t.d):Int)))] (.cons (by omega) .nil) ?_
   refine Dl.l 6 [(31,(.agg [(.int .i64 ((List.getD t.d.kids 0 dc0).kind)),(.str ((List.getD t.d.kids 0 dc0).text)),(.int .i64 ((List.getD t.d.kids 0 dc0).n)),(.osl 4 (esD (List.getD t.d.kids 0 dc0)))]))] (@Go.AM.ldKid0 (hp [Obj.row 0 69 6 0 (some 1) [encT t]]) (t.d) (by omega)) ?_
   refine Dl.bn 7 14 [(3, (.sl 1 0 0 1 none))] (hp [.row 0 69 6 0 (some 1) [(encT t)], .row 0 69 6 0 none [(.agg [(.int .i64 ((List.getD t.d.kids 0 dc0).kind)), (.str ((List.getD t.d.kids 0 dc0).text)), (.int .i64 ((List.getD t.d.kids 0 dc0).n)), (.osl 4 (esD (List.getD t.d.kids 0 dc0))), (.bool (t.flat)), (.int .i64 (m))])]]) [(([V.agg (j1 (j1 (j1 [V.int .i64 0, V.str [], V.int .i64 0, V.nils, V.bool false, V.int .i64 0] #[Field.mk "D" (26 : Nat) (0 : Nat) false "" "" (0 : Nat), Field.mk "Flat" (4 : Nat) (4 : Nat) false "" "" (56 : Nat), Field.mk "N" (3 : Nat) (5 : Nat) false "" "" (64 : Nat)][(0 : Nat)].offset (V.cells (V.agg [V.int .i64 (List.getD t.d.kids (0 : Nat) dc0).kind, V.str (List.getD t.d.kids (0 : Nat) dc0).text, V.int .i64 (List.getD t.d.kids (0 : Nat) dc0).n, V.osl 4 (esD (List.getD t.d.kids (0 : Nat) dc0))]))) #[Field.mk "D" (26 : Nat) (0 : Nat) false "" "" (0 : Nat), Field.mk "Flat" (4 : Nat) (4 : Nat) false "" "" (56 : Nat), Field.mk "N" (3 : Nat) (5 : Nat) false "" "" (64 : Nat)][(1 : Nat)].offset (V.cells (V.bool t.flat))) #[Field.mk "D" (26 : Nat) (0 : Nat) false "" "" (0 : Nat), Field.mk "Flat" (4 : Nat) (4 : Nat) false "" "" (56 : Nat), Field.mk "N" (3 : Nat) (5 : Nat) false "" "" (64 : Nat)][(2 : Nat)].offset (V.cells (V.int .i64 m)))] ≠ []) ∧ ((1 ≤ (1099511627776 : Nat)) ∧ (1 * 72 ≤ (1099511627776 : Nat))))] (.cons (by simp) .nil) ?_
   refine Dl.done 14 rfl ?_
   refine Wc.w [(5,(.int .i64 1))] [(i64r (1:Int))] (.cons (by omega) .nil) ?_
   have hi':0<t.d.kids.length:=by omega
   refine ⟨0+1,?_,by omega,by omega⟩
   simp only [zz3 (show 0<0+1 by omega),zy0 (show 0<0+1 by omega)]
   rw [qr9 hi',List.take_zero,List.nil_append,hm]
   exact Vw.gk [(0,false),(1,false)] [(0=0),(0=0)] (.cons (by omega) (.cons (by omega) .nil))
  refine Wc.exit (z8.here (Wc.seq (Wc.w0 [(2,.nils)] ?_)))
  refine Wc.ret ?_
  refine retX.mk .nils ⟨rfl,rfl⟩ (by kernel_rfl) ?_
  have he:t.d.kids=[]:=List.eq_nil_of_length_eq_zero (by omega)
  exact ⟨.nils,rfl,by unfold z6;rw [he];exact .nils 6⟩
 simp only [zz3 h0,zy0 h0]
 have htl:((z6 t t.flat).take i).length=i:=by rw [List.length_take];omega
 generalize hts:(z6 t t.flat).take i=ts at *
 refine Wc.seq (Wc.seq (Wc.wn0 [(1,(.ptr 0 0 0)),(3,(.sl 1 0 0 (i) none)),(4,(.int .i64 (m))),(5,(.int .i64 (i:Int))),(22,(.bool (decide ((i:Int)<(List.length (esD t.d):Int)))))] (hp [.row 0 69 6 0 (some 1) [(encT t)],.row 0 69 6 0 none (List.map encT ts)]) ?_))
 refine Wc.cq (p:=(i:Int)<(List.length (esD t.d):Int)) (fun c1=>?_) (fun c1=>?_)
 ·refine Wc.skip (Wc.seq (Wc.block (Wc.drawn0 (by kernel_rfl) ?_)))
  refine Dl.bs 0 6 [(25,(.sl 1 0 0 (i) none)),(30,(.gptr 4 (esD t.d) (i*4)))] [((0≤(i:Int))∧((i:Int)<(List.length (esD t.d):Int)))] (.cons (by omega) .nil) ?_
  refine Dl.l 6 [(31,(.agg [(.int .i64 ((List.getD t.d.kids i dc0).kind)),(.str ((List.getD t.d.kids i dc0).text)),(.int .i64 ((List.getD t.d.kids i dc0).n)),(.osl 4 (esD (List.getD t.d.kids i dc0)))]))] (@Go.AM.ldKid (hp [Obj.row 0 69 6 0 (some 1) [encT t],Obj.row 0 69 6 0 none (List.map encT ts)]) (t.d) (i) (by omega)) ?_
  refine Dl.bn 7 14 [(3, (.sl 1 1 0 (i + List.length [V.agg (j1 (j1 (j1 [V.int .i64 0, V.str [], V.int .i64 0, V.nils, V.bool false, V.int .i64 0] #[Field.mk "D" 26 0 false "" "" 0, Field.mk "Flat" 4 4 false "" "" 56, Field.mk "N" 3 5 false "" "" 64][0].offset (V.cells (V.agg [V.int .i64 (List.getD t.d.kids i dc0).kind, V.str (List.getD t.d.kids i dc0).text, V.int .i64 (List.getD t.d.kids i dc0).n, V.osl 4 (esD (List.getD t.d.kids i dc0))]))) #[Field.mk "D" 26 0 false "" "" 0, Field.mk "Flat" 4 4 false "" "" 56, Field.mk "N" 3 5 false "" "" 64][1].offset (V.cells (V.bool t.flat))) #[Field.mk "D" 26 0 false "" "" 0, Field.mk "Flat" 4 4 false "" "" 56, Field.mk "N" 3 5 false "" "" 64][2].offset (V.cells (V.int .i64 m)))]) none))] (hp [.row 0 69 6 0 (some 1) [(encT t)], .row 1 69 6 0 none (List.map encT ts ++ [V.agg (j1 (j1 (j1 [V.int .i64 0, V.str [], V.int .i64 0, V.nils, V.bool false, V.int .i64 0] #[Field.mk "D" 26 0 false "" "" 0, Field.mk "Flat" 4 4 false "" "" 56, Field.mk "N" 3 5 false "" "" 64][0].offset (V.cells (V.agg [V.int .i64 (List.getD t.d.kids i dc0).kind, V.str (List.getD t.d.kids i dc0).text, V.int .i64 (List.getD t.d.kids i dc0).n, V.osl 4 (esD (List.getD t.d.kids i dc0))]))) #[Field.mk "D" 26 0 false "" "" 0, Field.mk "Flat" 4 4 false "" "" 56, Field.mk "N" 3 5 false "" "" 64][1].offset (V.cells (V.bool t.flat))) #[Field.mk "D" 26 0 false "" "" 0, Field.mk "Flat" 4 4 false "" "" 56, Field.mk "N" 3 5 false "" "" 64][2].offset (V.cells (V.int .i64 m)))])]) [(((0 : Nat) = 0) ∧ (([V.agg (j1 (j1 (j1 [V.int .i64 0, V.str [], V.int .i64 0, V.nils, V.bool false, V.int .i64 0] #[Field.mk "D" (26 : Nat) (0 : Nat) false "" "" (0 : Nat), Field.mk "Flat" (4 : Nat) (4 : Nat) false "" "" (56 : Nat), Field.mk "N" (3 : Nat) (5 : Nat) false "" "" (64 : Nat)][(0 : Nat)].offset (V.cells (V.agg [V.int .i64 (List.getD t.d.kids i dc0).kind, V.str (List.getD t.d.kids i dc0).text, V.int .i64 (List.getD t.d.kids i dc0).n, V.osl 4 (esD (List.getD t.d.kids i dc0))]))) #[Field.mk "D" (26 : Nat) (0 : Nat) false "" "" (0 : Nat), Field.mk "Flat" (4 : Nat) (4 : Nat) false "" "" (56 : Nat), Field.mk "N" (3 : Nat) (5 : Nat) false "" "" (64 : Nat)][(1 : Nat)].offset (V.cells (V.bool t.flat))) #[Field.mk "D" (26 : Nat) (0 : Nat) false "" "" (0 : Nat), Field.mk "Flat" (4 : Nat) (4 : Nat) false "" "" (56 : Nat), Field.mk "N" (3 : Nat) (5 : Nat) false "" "" (64 : Nat)][(2 : Nat)].offset (V.cells (V.int .i64 m)))] ≠ []) ∧ ((i = List.length (List.map encT ts)) ∧ (((0 : Nat) ≤ i) ∧ ((i + List.length [V.agg (j1 (j1 (j1 [V.int .i64 0, V.str [], V.int .i64 0, V.nils, V.bool false, V.int .i64 0] #[Field.mk "D" (26 : Nat) (0 : Nat) false "" "" (0 : Nat), Field.mk "Flat" (4 : Nat) (4 : Nat) false "" "" (56 : Nat), Field.mk "N" (3 : Nat) (5 : Nat) false "" "" (64 : Nat)][(0 : Nat)].offset (V.cells (V.agg [V.int .i64 (List.getD t.d.kids i dc0).kind, V.str (List.getD t.d.kids i dc0).text, V.int .i64 (List.getD t.d.kids i dc0).n, V.osl 4 (esD (List.getD t.d.kids i dc0))]))) #[Field.mk "D" (26 : Nat) (0 : Nat) false "" "" (0 : Nat), Field.mk "Flat" (4 : Nat) (4 : Nat) false "" "" (56 : Nat), Field.mk "N" (3 : Nat) (5 : Nat) false "" "" (64 : Nat)][(1 : Nat)].offset (V.cells (V.bool t.flat))) #[Field.mk "D" (26 : Nat) (0 : Nat) false "" "" (0 : Nat), Field.mk "Flat" (4 : Nat) (4 : Nat) false "" "" (56 : Nat), Field.mk "N" (3 : Nat) (5 : Nat) false "" "" (64 : Nat)][(2 : Nat)].offset (V.cells (V.int .i64 m)))] ≤ (1099511627776 : Nat)) ∧ ((i + List.length [V.agg (j1 (j1 (j1 [V.int .i64 0, V.str [], V.int .i64 0, V.nils, V.bool false, V.int .i64 0] #[Field.mk "D" (26 : Nat) (0 : Nat) false "" "" (0 : Nat), Field.mk "Flat" (4 : Nat) (4 : Nat) false "" "" (56 : Nat), Field.mk "N" (3 : Nat) (5 : Nat) false "" "" (64 : Nat)][(0 : Nat)].offset (V.cells (V.agg [V.int .i64 (List.getD t.d.kids i dc0).kind, V.str (List.getD t.d.kids i dc0).text, V.int .i64 (List.getD t.d.kids i dc0).n, V.osl 4 (esD (List.getD t.d.kids i dc0))]))) #[Field.mk "D" (26 : Nat) (0 : Nat) false "" "" (0 : Nat), Field.mk "Flat" (4 : Nat) (4 : Nat) false "" "" (56 : Nat), Field.mk "N" (3 : Nat) (5 : Nat) false "" "" (64 : Nat)][(1 : Nat)].offset (V.cells (V.bool t.flat))) #[Field.mk "D" (26 : Nat) (0 : Nat) false "" "" (0 : Nat), Field.mk "Flat" (4 : Nat) (4 : Nat) false "" "" (56 : Nat), Field.mk "N" (3 : Nat) (5 : Nat) false "" "" (64 : Nat)][(2 : Nat)].offset (V.cells (V.int .i64 m)))]) * 72 ≤ (1099511627776 : Nat)))))))] (.cons (by exact ⟨rfl, by simp, by first | (simp; done) | (simp; omega), by omega, by simp only [List.length_cons, List.length_nil]; omega, by simp only [List.length_cons, List.length_nil]; omega⟩) .nil) ?_
  refine Dl.done 14 rfl ?_
  refine Wc.wn [(3,(.sl 1 1 0 (i+1) none)),(5,(.int .i64 ((i:Int)+1)))] (hp [.row 0 69 6 0 (some 1) [(encT t)],.row 1 69 6 0 none (List.map encT ts++[V.agg (j1 (j1 (j1 [V.int .i64 0,V.str [],V.int .i64 0,V.nils,V.bool false,V.int .i64 0] 0 (V.cells (V.agg [V.int .i64 (List.getD t.d.kids i dc0).kind,V.str (List.getD t.d.kids i dc0).text,V.int .i64 (List.getD t.d.kids i dc0).n,V.osl 4 (esD (List.getD t.d.kids i dc0))]))) 4 (V.cells (V.bool t.flat))) 5 (V.cells (V.int .i64 m)))])]) [(i64r ((i:Int)+1))] (.cons (by omega) .nil) ?_
  have hi':i<t.d.kids.length:=by omega
  refine ⟨i+1,?_,by omega,by omega⟩
  simp only [zz3 (show 0<i+1 by omega),zy0 (show 0<i+1 by omega)]
  rw [qr9 hi',hts,List.map_append,hm]
  exact Vw.gk [(0,false),(1,true)] [(∀ (e:V),e∈List.map encT ts++[V.agg (j1 (j1 (j1 [V.int .i64 0,V.str [],V.int .i64 0,V.nils,V.bool false,V.int .i64 0] (0:Nat) (V.cells (V.agg [V.int .i64 (List.getD t.d.kids i dc0).kind,V.str (List.getD t.d.kids i dc0).text,V.int .i64 (List.getD t.d.kids i dc0).n,V.osl 4 (esD (List.getD t.d.kids i dc0))]))) (4:Nat) (V.cells (V.bool t.flat))) (5:Nat) (V.cells (V.int .i64 m)))]→x2 (x4 3) (V.cells e)=true),(0=0),(1=1)] (.cons (by exact w6 (x3 (fun _=>rfl) _) (q63 rfl)) (.cons (by omega) (.cons (by omega) .nil)))
 refine Wc.exit (z8.here (Wc.seq (Wc.w0 [(2,(.sl 1 0 0 (i) none))] ?_)))
 refine Wc.ret ?_
 refine retX.mk (.sl 1 0 0 (i) none) ⟨rfl,rfl⟩ (by kernel_rfl) ?_
 have he:i=t.d.kids.length:=by omega
 rw [List.take_of_length_le (by omega)] at hts
 subst hts
 exact ⟨_,q94 (f:=encT) (fun seen a h=>qq3 seen a h) (h:=hp [.row 0 69 6 0 (some 1) [encT t],.row 0 69 6 0 none (List.map encT (z6 t t.flat))]) (r:=1) (ver:=0) (n:=i) (ty:=69) (sz:=6) (pb:=0) (cap:=none) (l:=z6 t t.flat) (es:=List.map encT (z6 t t.flat)) (by kernel_rfl) rfl (by omega),.gsl⟩
end Go.AM
namespace Go.AM
open Go.Proofs
set_option maxRecDepth 100000
set_option maxHeartbeats 4000000
structure RfI (w:Int) (R:Bool) (a:List Th×Int):Prop where
 ok:∀ t,t∈a.1→okT t
 sum:sumT a.1≤1000
 col:0≤a.2
 bound:a.2+(sumT a.1:Int)≤1000000
 fits:y1 w a.1 a.2=R
theorem cAheadG {xs bs:List Th} (ha:xs.length≤100000) (hb:bs.length≤100000):Cp Tryd.prog EU 45 [.osl 6 (xs.map encT),.gsl 6 (bs.map encT) none] (.osl 6 ((xs++bs).map encT)):=.args (.cons (.refl _) (.cons .gsl .nil)) (j66 ha hb)
theorem zd9 {s:List UInt8} (h:0≤z0 10 s 0):q65 s=true∧q01 s=s.take (Int.toNat (z0 10 s 0)):=by
 constructor
 ·rw [q46]
  refine Classical.byContradiction fun q=>?_
  have:=qf2 s q 0;omega
 ·unfold q01
  rw [z08 s (by omega),List.getD_cons_zero,Int.add_zero]
theorem xv0 {s:List UInt8} (h:¬ 0≤z0 10 s 0):q65 s=false:=by
 rw [Bool.eq_false_iff]
 intro q
 obtain ⟨a,t,h1,h2,h3⟩:=q77 s ((q46 s).1 q)
 have:=h3 0;omega
theorem zs3 {r:List Th} {c w:Int} {s:Fr} {h:Heap} (hv:Vw 0 s h ((base 47 74).on [(0,.gsl 6 (r.map encT) none),(1,.int .i64 c),(2,.int .i64 w),(6,.bool false)]) Heap.empty):Vw 0 s h ((base 47 74).on [(0,.osl 6 (r.map encT)),(1,.int .i64 c),(2,.int .i64 w),(6,.bool false)]) Heap.empty :=
 hv.trans (Vw.slot (b:=base 47 74) 0 (.gsl 6 (r.map encT) none) (.osl 6 (r.map encT)) [0,1,2,6] (by kernel_rfl) .gsl (by simp [lost]) (by kernel_rfl) (by kernel_rfl))
theorem zt4 {w col:Int} {R:Bool} {t:Th} {r:List Th} (hok:∀ u,u∈t::r→okT u) (hsum:szD t.d+sumT r≤1000) (hcol:0≤col) (hbd:col+((szD t.d+sumT r:Nat):Int)≤1000000) (hf:y1 w (z6 t t.flat++r) col=R):RfI w R (z6 t t.flat++r,col):=by
 have hk:=q91 t t.flat
 refine ⟨fun u hu=>?_,?_,hcol,?_,hf⟩
 ·rcases List.mem_append.1 hu with q | q
  ·exact z16 (hok t (by simp)) _ u q
  ·exact hok u (by simp [q])
 ·change sumT (z6 t t.flat++r)≤1000
  rw [q57];omega
 ·change col+(sumT (z6 t t.flat++r):Int)≤1000000
  rw [q57];omega
theorem j33 {w:Int} {l:List Th} {col:Int} (h0:RfI w (y1 w l col) (l,col)):Cp Tryd.prog EU 47 [.osl 6 (l.map encT),.int .i64 col,.int .i64 w] (.bool (y1 w l col)):=by
 refine Cp.body (fn:=Tryd.f47) Tryd.func47 rfl (by kernel_rfl) ?_
 generalize y1 w l col=R at *
 refine Wc.seq (Wc.wn0 [(0,(.osl 6 (List.map encT l))),(1,(.int .i64 (col))),(2,(.int .i64 (w))),(6,(.bool false))] Heap.empty ?_)
 refine Wc.seq (Wc.block ?_)
 refine Wc.loopV (α:=List Th×Int) (fun a=>(base 47 74).on [(0,.osl 6 (a.1.map encT)),(1,.int .i64 a.2),(2,.int .i64 w),(6,.bool false)]) (fun _=>Heap.empty) (RfI w R) (fun a=>w8 a.1) (l,col) (Vw.le (Le.on [0,1,2,6] (by kernel_rfl))) h0 ?_
 clear h0 l col
 rintro ⟨l,col⟩ ⟨hok,hsum,hcol,hbd,hf⟩
 simp only at hok hsum hcol hbd hf
 rcases l with _ | ⟨t,r⟩
 ·refine Wc.seq (Wc.seq (Wc.wn0 [(0,(.osl 6 [])),(1,(.int .i64 (col))),(2,(.int .i64 (w))),(6,(.bool false)),(16,(.bool false))] Heap.empty ?_))
  refine Wc.cf (Wc.exit (z8.here (Wc.seq (Wc.w0 [(6,(.bool (decide (col≤w))))] ?_))))
  refine Wc.ret ?_
  refine retX.mk (.bool (decide (col≤w))) ⟨rfl,rfl⟩ (by kernel_rfl) ?_
  rw [← hf]
  unfold y1
  by_cases h:col≤w
  ·rw [decide_eq_true h,if_pos h];rfl
  rw [decide_eq_false h,if_neg h];rfl
 rw [j5] at hsum hbd
 have hto:=hok t (by simp)
 have hro:∀ u,u∈r→okT u:=fun u hu=>hok u (by simp [hu])
 have htx:=y3 t.d
 have hsz:=q07 t.d
 obtain ⟨er,her⟩:∃ er,er=r.map encT:=⟨_,rfl⟩
 change Wc Tryd.prog EU _ ((base 47 74).on [(0,.osl 6 (encT t::r.map encT)),(1,.int .i64 col),(2,.int .i64 w),(6,.bool false)]) Heap.empty _ _ _
 rw [← her]
 refine Wc.view (Vw.slot (b:=base 47 74) (L':=[(0,.gsl 6 (encT t::er) none),(1,.int .i64 col),(2,.int .i64 w),(6,.bool false)]) 0 (.osl 6 (encT t::er)) (.gsl 6 (encT t::er) none) [0,1,2,6] (by kernel_rfl) (z38 (by simp)) (by simp [lost]) (by kernel_rfl) (by kernel_rfl)) ?_
 refine Wc.seq (Wc.seq (Wc.enter (Wl.bn0 0 4 [(0,(.gsl 6 ((encT t)::er) none)),(1,(.int .i64 (col))),(2,(.int .i64 (w))),(6,(.bool false)),(12,(.bool (decide (0<(List.length (encT t::er):Int)))))] Heap.empty ?_)))
 refine Wl.k 12 (.bool (decide (0<(List.length (encT t::er):Int)))) (.bool true) (by have e:=decide_eq_true (show 0<(List.length (encT t::er):Int) from (by simp));simp only [e] <;> rfl) ?_
 refine Wl.b0 4 8 [(16,(.bool (decide (col≤w))))] ?_
 refine Wl.dn 8 ?_
 refine Wc.cq (p:=col≤w) (fun c2=>?_) (fun c2=>?_)
 ·refine Wc.skip (Wc.block (Wc.seq (Wc.wn [(7,(.ptr 0 0 0))] (hp [.row 0 69 6 0 (some 1) [(.agg [(.int .i64 (t.d.kind)),(.str (t.d.text)),(.int .i64 (t.d.n)),(.osl 4 (esD t.d)),(.bool (t.flat)),(.int .i64 (t.n))])]]) [(((0:Int)≤0)∧((0:Int)<(List.length (encT t::er):Int)))] (.cons (by simp) .nil) ?_)))
  refine Wc.seq ?_
  have hcw:col≤w:=by omega
  rw [q08 hcw] at hf
  have hlo:=qe6 r
  have hkl:t.d.kids.length≤100000:=by have:=qc3 t.d;omega
  have hkn:=qb3 t t.flat
  have hkl2:(z6 t t.flat).length≤100000:=by omega
  have hbn:=ql5 hto
  have hn2:-1000000000≤t.n∧t.n≤1000000000:=by have:=hto.2;omega
  have hrt:=hto.1
  have hle:=qp0 t.d.text
  have hwl:=q15 t.d.text
  have hwl2:=q15 (List.take (Int.toNat (z0 10 t.d.text 0)) t.d.text)
  refine Wc.mid ((base 47 74).on [(0,.gsl 6 er none),(1,.int .i64 col),(2,.int .i64 w),(6,.bool false),(7,.ptr 0 0 0)]) (hp [.row 0 69 6 0 (some 1) [encT t]]) ?_ ?_
  ·refine Wc.wn [(0,(.gsl 6 (List.drop 1 (encT t::er)) none)),(1,(.int .i64 (col))),(2,(.int .i64 (w))),(6,(.bool false)),(7,(.ptr 0 0 0)),(16,(.bool (decide (col≤w))))] (hp [.row 0 69 6 0 (some 1) [(.agg [(.int .i64 (t.d.kind)),(.str (t.d.text)),(.int .i64 (t.d.n)),(.osl 4 (esD t.d)),(.bool (t.flat)),(.int .i64 (t.n))])]]) [(((0:Int)≤1)∧((1:Int)≤(List.length (encT t::er):Int)))] (.cons (by (simp only [List.length_append,List.length_cons,List.length_nil];omega)) .nil) ?_
   exact Vw.gk [(0,false)] [(0=0)] (.cons (by omega) .nil)
  rw [her]
  refine Wc.seq (Wc.wn0 [(0,(.gsl 6 (List.map encT r) none)),(1,(.int .i64 (col))),(2,(.int .i64 (w))),(6,(.bool false)),(7,(.ptr 0 0 0)),(24,(.int .i64 (t.d.kind)))] (hp [.row 0 69 6 0 (some 1) [(encT t)]]) ?_)
  refine Wc.block (Wc.seq (Wc.w0 [(25,(.bool (decide (t.d.kind=1))))] ?_))
  refine Wc.cq (p:=t.d.kind=1) (fun c1=>?_) (fun c1=>?_)
  ·refine Wc.seq (Wc.enter (Wl.b0 0 3 [(29,(.str (t.d.text)))] ?_))
   refine Wl.c 3 [(30,(.int .i64 (z0 10 t.d.text 0)))] (@Go.AM.cFeed (t.d.text) (by omega)) ?_
   refine Wl.b0 4 5 [(8,(.int .i64 (z0 10 t.d.text 0)))] ?_
   refine Wl.dn 5 (Wc.seq (Wc.seq (Wc.w0 [(32,(.bool (decide (0≤z0 10 t.d.text 0))))] ?_)))
   refine Wc.cq (p:=0≤z0 10 t.d.text 0) (fun c3=>?_) (fun c3=>?_)
   ·refine Wc.seq (Wc.enter (Wl.bs 0 6 [(33,(.int .i64 (col))),(38,(.str (List.take (Int.toNat (z0 10 t.d.text 0)) t.d.text)))] [(((0:Int)≤z0 10 t.d.text (0:Nat))∧(z0 10 t.d.text (0:Nat)≤(List.length t.d.text:Int)))] (.cons (by omega) .nil) ?_))
    refine Wl.c 6 [(39,(.int .i64 ((wide (List.take (Int.toNat (z0 10 t.d.text 0)) t.d.text):Int))))] (@Go.AM.c23 (List.take (Int.toNat (z0 10 t.d.text 0)) t.d.text) (by (simp only [List.length_take] at *;omega))) ?_
    refine Wl.bs 7 11 [(6,(.bool (decide (col+(wide (List.take (Int.toNat (z0 10 t.d.text 0)) t.d.text):Int)≤w))))] [(((-9223372036854775808:Int)≤col+(wide (List.take (Int.toNat (z0 (10:UInt8) t.d.text (0:Nat))) t.d.text):Int))∧(col+(wide (List.take (Int.toNat (z0 (10:UInt8) t.d.text (0:Nat))) t.d.text):Int)≤9223372036854775807))] (.cons (by (simp only [List.length_take] at *;omega)) .nil) ?_
    refine Wl.dn 11 (Wc.ret (z8.ret ?_))
    refine z8.ret ?_
    refine z8.ret ?_
    refine retX.mk (.bool (decide (col+(wide (List.take (Int.toNat (z0 10 t.d.text 0)) t.d.text):Int)≤w))) ⟨rfl,rfl⟩ (by kernel_rfl) ?_
    rw [if_pos c1,if_pos (zd9 c3).1,(zd9 c3).2] at hf
    rw [hf];rfl
   refine Wc.skip (Wc.enter (Wl.b0 0 4 [(43,(.int .i64 (col))),(46,(.str (t.d.text)))] ?_))
   refine Wl.c 4 [(47,(.int .i64 ((wide t.d.text:Int))))] (@Go.AM.c23 (t.d.text) (by omega)) ?_
   refine Wl.bs 5 7 [(1,(.int .i64 (col+(wide t.d.text:Int))))] [(i64r (col+(wide t.d.text:Int)))] (.cons (by omega) .nil) ?_
   refine Wl.dn 7 ?_
   rw [if_pos c1,if_neg (by rw [xv0 c3];simp)] at hf
   refine ⟨(r,col+(wide t.d.text:Int)),zs3 ?_,⟨hro,by simp only;omega,by simp only;omega,by simp only;omega,hf⟩,y9 t r⟩
   exact Vw.gk [] [] .nil
  refine Wc.seq (Wc.seq (Wc.w0 [(49,(.bool (decide (t.d.kind=2))))] ?_))
  refine Wc.cq (p:=t.d.kind=2) (fun c4=>?_) (fun c4=>?_)
  ·refine Wc.skip ?_
   refine Wc.cq (p:=t.d.kind=2) (fun c5=>?_) (fun c5=>absurd (show t.d.kind=2 from c4) c5)
   refine Wc.seq (Wc.seq (Wc.w0 [(54,(.bool (!t.flat)))] ?_))
   refine Wc.cond (!t.flat) (by kernel_rfl) (by kernel_rfl) (fun c6=>?_) (fun c6=>?_)
   ·refine Wc.seq (Wc.wn0 [(0,(.gsl 6 (List.map encT r) none)),(1,(.int .i64 (col))),(2,(.int .i64 (w))),(6,(.bool true)),(7,(.ptr 0 0 0)),(24,(.int .i64 (t.d.kind))),(25,(.bool (decide (t.d.kind=1)))),(49,(.bool (decide (t.d.kind=2)))),(54,(.bool (!t.flat)))] (hp [.row 0 69 6 0 (some 1) [(encT t)]]) ?_)
    refine Wc.ret (z8.ret ?_)
    refine z8.ret ?_
    refine z8.ret ?_
    refine retX.mk (.bool true) ⟨rfl,rfl⟩ (by kernel_rfl) ?_
    rw [if_neg c1,if_neg (by omega),if_pos (.inl c4),if_neg (by simpa using c6)] at hf
    rw [← hf];rfl
   refine Wc.skip (Wc.seq (Wc.wn0 [(0,(.gsl 6 (List.map encT r) none)),(1,(.int .i64 (col))),(2,(.int .i64 (w))),(6,(.bool false)),(7,(.ptr 0 0 0)),(24,(.int .i64 (t.d.kind))),(25,(.bool (decide (t.d.kind=1)))),(49,(.bool (decide (t.d.kind=2)))),(54,(.bool (!t.flat))),(58,(.bool (decide (t.d.kind=2))))] (hp [.row 0 69 6 0 (some 1) [(encT t)]]) ?_))
   refine Wc.cq (p:=t.d.kind=2) (fun c7=>?_) (fun c7=>absurd (show t.d.kind=2 from c4) c7)
   refine Wc.w [(1,(.int .i64 (col+1)))] [(i64r (col+1))] (.cons (by omega) .nil) ?_
   rw [if_neg c1,if_neg (by omega),if_pos (.inl c4),if_pos (by simpa using c6),if_pos c4] at hf
   refine ⟨(r,col+1),zs3 ?_,⟨hro,by simp only;omega,by simp only;omega,by simp only;omega,hf⟩,y9 t r⟩
   exact Vw.gk [] [] .nil
  refine Wc.w0 [(49,(.bool (decide (t.d.kind=3))))] ?_
  refine Wc.cq (p:=t.d.kind=3) (fun c8=>?_) (fun c8=>?_)
  ·refine Wc.seq (Wc.seq (Wc.w0 [(54,(.bool (!t.flat)))] ?_))
   refine Wc.cond (!t.flat) (by kernel_rfl) (by kernel_rfl) (fun c9=>?_) (fun c9=>?_)
   ·refine Wc.seq (Wc.wn0 [(0,(.gsl 6 (List.map encT r) none)),(1,(.int .i64 (col))),(2,(.int .i64 (w))),(6,(.bool true)),(7,(.ptr 0 0 0)),(24,(.int .i64 (t.d.kind))),(25,(.bool (decide (t.d.kind=1)))),(49,(.bool (decide (t.d.kind=3)))),(54,(.bool (!t.flat)))] (hp [.row 0 69 6 0 (some 1) [(encT t)]]) ?_)
    refine Wc.ret (z8.ret ?_)
    refine z8.ret ?_
    refine z8.ret ?_
    refine retX.mk (.bool true) ⟨rfl,rfl⟩ (by kernel_rfl) ?_
    rw [if_neg c1,if_neg (by omega),if_pos (.inr c8),if_neg (by simpa using c9)] at hf
    rw [← hf];rfl
   refine Wc.skip (Wc.seq (Wc.wn0 [(0,(.gsl 6 (List.map encT r) none)),(1,(.int .i64 (col))),(2,(.int .i64 (w))),(6,(.bool false)),(7,(.ptr 0 0 0)),(24,(.int .i64 (t.d.kind))),(25,(.bool (decide (t.d.kind=1)))),(49,(.bool (decide (t.d.kind=3)))),(54,(.bool (!t.flat))),(58,(.bool (decide (t.d.kind=2))))] (hp [.row 0 69 6 0 (some 1) [(encT t)]]) ?_))
   refine Wc.cq (p:=t.d.kind=2) (fun c10=>absurd c10 (show ¬ (t.d.kind=2) from c4)) (fun c10=>?_)
   refine Wc.skip ?_
   rw [if_neg c1,if_neg (by omega),if_pos (.inr c8),if_pos (by simpa using c9),if_neg c4] at hf
   refine ⟨(r,col),zs3 ?_,⟨hro,by simp only;omega,by simp only;omega,by simp only;omega,hf⟩,y9 t r⟩
   exact Vw.gk [] [] .nil
  refine Wc.seq (Wc.w0 [(61,(.bool (decide (t.d.kind=4))))] ?_)
  refine Wc.cq (p:=t.d.kind=4) (fun c11=>?_) (fun c11=>?_)
  ·refine Wc.seq (Wc.w0 [(6,(.bool true))] ?_)
   refine Wc.ret (z8.ret ?_)
   refine z8.ret ?_
   refine z8.ret ?_
   refine retX.mk (.bool true) ⟨rfl,rfl⟩ (by kernel_rfl) ?_
   rw [if_neg c1,if_pos c11] at hf
   rw [← hf];rfl
  refine Wc.seq (Wc.seq (Wc.w0 [(63,(.bool (decide (t.d.kind=5))))] ?_))
  refine Wc.cq (p:=t.d.kind=5) (fun c12=>?_) (fun c12=>?_)
  ·refine Wc.skip ?_
   refine Wc.cq (p:=t.d.kind=5) (fun c13=>?_) (fun c13=>absurd (show t.d.kind=5 from c12) c13)
   refine Wc.enter (Wl.b0 0 1 [(67,(.agg [(.int .i64 (t.d.kind)),(.str (t.d.text)),(.int .i64 (t.d.n)),(.osl 4 (esD t.d)),(.bool (t.flat)),(.int .i64 (t.n))]))] ?_)
   refine Wl.c 1 [(68,(.osl 6 (List.map encT (z6 t t.flat))))] (@Go.AM.cRKids (t) hrt hkl hbn hn2) ?_
   refine Wl.b0 2 3 [(69,(.gsl 6 (List.map encT r) none))] ?_
   let v1:V:=(.osl 6 (List.map encT (z6 t t.flat++r)))
   refine Wl.c 3 [(70,v1)] (@Go.AM.cAheadG (z6 t t.flat) (r) hkl2 (by omega)) ?_
   refine Wl.b0 4 5 [(0,v1)] ?_
   refine Wl.dn 5 ?_
   rw [if_neg c1,if_neg (by omega),if_neg (by omega)] at hf
   refine ⟨(z6 t t.flat++r,col),?_,zt4 hok hsum hcol hbd hf,q02 t t.flat r⟩
   exact Vw.gk [] [] .nil
  refine Wc.seq (Wc.w0 [(63,(.bool (decide (t.d.kind=6))))] ?_)
  refine Wc.cq (p:=t.d.kind=6) (fun c14=>?_) (fun c14=>?_)
  ·refine Wc.skip ?_
   refine Wc.cq (p:=t.d.kind=6) (fun c15=>?_) (fun c15=>absurd (show t.d.kind=6 from c14) c15)
   refine Wc.enter (Wl.b0 0 1 [(67,(.agg [(.int .i64 (t.d.kind)),(.str (t.d.text)),(.int .i64 (t.d.n)),(.osl 4 (esD t.d)),(.bool (t.flat)),(.int .i64 (t.n))]))] ?_)
   refine Wl.c 1 [(68,(.osl 6 (List.map encT (z6 t t.flat))))] (@Go.AM.cRKids (t) hrt hkl hbn hn2) ?_
   refine Wl.b0 2 3 [(69,(.gsl 6 (List.map encT r) none))] ?_
   let v2:V:=(.osl 6 (List.map encT (z6 t t.flat++r)))
   refine Wl.c 3 [(70,v2)] (@Go.AM.cAheadG (z6 t t.flat) (r) hkl2 (by omega)) ?_
   refine Wl.b0 4 5 [(0,v2)] ?_
   refine Wl.dn 5 ?_
   rw [if_neg c1,if_neg (by omega),if_neg (by omega)] at hf
   refine ⟨(z6 t t.flat++r,col),?_,zt4 hok hsum hcol hbd hf,q02 t t.flat r⟩
   exact Vw.gk [] [] .nil
  refine Wc.w0 [(63,(.bool (decide (t.d.kind=7))))] ?_
  refine Wc.cq (p:=t.d.kind=7) (fun c16=>?_) (fun c16=>?_)
  ·refine Wc.enter (Wl.b0 0 1 [(67,(.agg [(.int .i64 (t.d.kind)),(.str (t.d.text)),(.int .i64 (t.d.n)),(.osl 4 (esD t.d)),(.bool (t.flat)),(.int .i64 (t.n))]))] ?_)
   refine Wl.c 1 [(68,(.osl 6 (List.map encT (z6 t t.flat))))] (@Go.AM.cRKids (t) hrt hkl hbn hn2) ?_
   refine Wl.b0 2 3 [(69,(.gsl 6 (List.map encT r) none))] ?_
   let v3:V:=(.osl 6 (List.map encT (z6 t t.flat++r)))
   refine Wl.c 3 [(70,v3)] (@Go.AM.cAheadG (z6 t t.flat) (r) hkl2 (by omega)) ?_
   refine Wl.b0 4 5 [(0,v3)] ?_
   refine Wl.dn 5 ?_
   rw [if_neg c1,if_neg (by omega),if_neg (by omega)] at hf
   refine ⟨(z6 t t.flat++r,col),?_,zt4 hok hsum hcol hbd hf,q02 t t.flat r⟩
   exact Vw.gk [] [] .nil
  refine Wc.skip ?_
  rw [if_neg c1,if_neg (by omega),if_neg (by omega),zn1 hrt (by have:=qn1 hrt;omega),List.nil_append] at hf
  refine ⟨(r,col),zs3 ?_,⟨hro,by simp only;omega,by simp only;omega,by simp only;omega,hf⟩,y9 t r⟩
  exact Vw.gk [] [] .nil
 refine Wc.exit (z8.here (Wc.seq (Wc.w0 [(6,(.bool (decide (col≤w))))] ?_)))
 refine Wc.ret ?_
 refine retX.mk (.bool (decide (col≤w))) ⟨rfl,rfl⟩ (by kernel_rfl) ?_
 rw [← hf,zn5 _ c2,decide_eq_false c2];rfl
end Go.AM
