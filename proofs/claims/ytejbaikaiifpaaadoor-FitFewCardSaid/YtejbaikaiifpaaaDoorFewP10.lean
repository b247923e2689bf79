/-
  WHAT FUNCTIONS OF THE PROGRAM COME TO: walked over states of which a part is known. No condition but what each theorem says of its arguments.
-/
import Derived.Test.YtejbaikaiifpaaaDoorFewP8
import Derived.Test.YtejbaikaiifpaaaDoorFewP9
namespace Go.AM
open Go.Proofs
set_option maxRecDepth 100000
set_option maxHeartbeats 4000000
theorem cLeaves {h:Heap} {d:Dc}:Cs Tryd.prog EU 56 [encD d] h (.func (.func 69) [] [.ptr h.n 0 0]) (newRow h 26 4 0 (some 1) [encD d]):=by
 refine Cs.body (fn:=Tryd.f56) Tryd.func56 rfl (by kernel_rfl) ?_
 refine Wc.seq (Wc.wn0 [(0,(.agg [(.int .i64 (d.kind)),(.str (d.text)),(.int .i64 (d.n)),(.osl 4 (esD d))])),(1,(.ptr (h.n) 0 0)),(2,.nilf)] (newRow h 26 (List.len (V.cells (V.agg [V.int .i64 d.kind,V.str d.text,V.int .i64 d.n,V.osl 4 (esD d)]))) 0 (some 1) [V.agg [V.int .i64 d.kind,V.str d.text,V.int .i64 d.n,V.osl 4 (esD d)]]) ?_)
 refine Wc.seq (Wc.w0 [(2,(.func (.func 69) [] [(.ptr (h.n) 0 0)]))] ?_)
 refine Wc.ret ?_
 refine retX.mk (.func (.func 69) [] [(.ptr (h.n) 0 0)]) ⟨rfl,rfl⟩ (by kernel_rfl) ?_
 exact ⟨by kernel_rfl,by kernel_rfl⟩
end Go.AM
namespace Go.AM
open Go.Proofs
set_option maxRecDepth 100000
set_option maxHeartbeats 4000000
structure Yr (A:Type) where
 own:A → Nat → Prop
 G:A → Heap → Prop
 St:A → Heap → Prop
 T:A → Dc → Bool → A → Prop
 wt:A → Nat
 low:∀ {a h r},G a h → own a r → r < h.n
 stay:∀ {a h h'},G a h → h.n ≤ h'.n → (∀ r,own a r → h'.get r = h.get r) → G a h'
 stop:∀ {a h h'},St a h → h.n ≤ h'.n → (∀ r,own a r → h'.get r = h.get r) → St a h'
def Kp (own own':Nat → Prop) (h h':Heap):Prop:=h.n ≤ h'.n ∧ (∀ r,r < h.n → ¬ own r → h'.get r = h.get r) ∧ (∀ r,own' r → own r ∨ h.n ≤ r)
theorem Kp.refl (own:Nat → Prop) (h:Heap):Kp own own h h:=⟨Nat.le_refl _,fun _ _ _ => rfl,fun _ q => .inl q⟩
theorem Kp.trans {a b c:Nat → Prop} {h1 h2 h3:Heap} (p:Kp a b h1 h2) (q:Kp b c h2 h3):Kp a c h1 h3:=by
 refine ⟨Nat.le_trans p.1 q.1,fun r hr ho => ?_,fun r hr => ?_⟩
 ·rw [q.2.1 r (Nat.lt_of_lt_of_le hr p.1) (fun hb => ?_),p.2.1 r hr ho]
  rcases p.2.2 r hb with e | e
  ·exact ho e
  ·omega
 ·rcases q.2.2 r hr with e | e
  ·exact p.2.2 r e
  ·exact .inr (Nat.le_trans p.1 e)
inductive RunY {A:Type} (T:A → Dc → Bool → A → Prop):A → List Dc → Bool → A → Prop
 | nil (a:A):RunY T a [] true a
 | cons {a a1 a2:A} {x:Dc} {l:List Dc} {b:Bool} (h:T a x true a1) (t:RunY T a1 l b a2):RunY T a (x :: l) b a2
 | stop {a a1:A} {x:Dc} {l:List Dc} (h:T a x false a1):RunY T a (x :: l) false a1
theorem RunY.app {A:Type} {T:A → Dc → Bool → A → Prop} {a a1 a2:A} {l m:List Dc} {b:Bool} (h:RunY T a l true a1) (k:RunY T a1 m b a2):RunY T a (l ++ m) b a2:=by
 generalize hb:true = c at h
 induction h with
 | nil a => exact k
 | cons h t IH => exact .cons h (IH k hb)
 | stop h => cases hb
theorem RunY.left {A:Type} {T:A → Dc → Bool → A → Prop} {a a1:A} {l:List Dc} (m:List Dc) (h:RunY T a l false a1):RunY T a (l ++ m) false a1:=by
 generalize hb:false = c at h
 induction h with
 | nil a => cases hb
 | cons h t IH => exact .cons h (IH hb)
 | stop h => exact .stop h
def leavesD (d:Dc):List Dc:=if d.kind < 5 then [d] else (d.kids.attach.map fun k => leavesD k.1).flatten
termination_by SizeOf.sizeOf d
decreasing_by exact kid_lt k.2
theorem leavesD_eq (d:Dc):leavesD d = if d.kind < 5 then [d] else (d.kids.map leavesD).flatten:=by
 rw [leavesD]
 congr 2
 conv => rhs; rw [← List.attach_map_subtype_val d.kids,List.map_map]
 rfl
def leavesK (l:List Dc) (i:Nat):List Dc:=((l.take i).map leavesD).flatten
theorem leavesK_succ (l:List Dc) {i:Nat} (hi:i < l.length):leavesK l (i + 1) = leavesK l i ++ leavesD (l.getD i dc0):=by
 unfold leavesK
 rw [List.take_add_one,List.map_append,List.flatten_append,List.getD_eq_getElem?_getD,List.getElem?_eq_getElem hi]
 simp
def sumK (l:List Dc) (i:Nat):Nat:=((l.take i).map szD).sum
theorem sumK_succ (l:List Dc) {i:Nat} (hi:i < l.length):sumK l (i + 1) = sumK l i + szD (l.getD i dc0):=by
 unfold sumK
 rw [List.take_add_one,List.map_append,List.sum_append,List.getD_eq_getElem?_getD,List.getElem?_eq_getElem hi]
 simp
theorem sumK_le (d:Dc) {i:Nat} (hi:i ≤ d.kids.length):sumK d.kids i < szD d:=by
 have h:sumK d.kids i ≤ (d.kids.map szD).sum:=by
  unfold sumK
  conv => rhs; rw [← List.take_append_drop i d.kids,List.map_append,List.sum_append]
  omega
 have:=szD_eq d; omega
def Yr.Ok {A:Type} (Y:Yr A) (l B:Nat):Prop:=∀ {a:A} {h:Heap} {x:Dc},Y.G a h → x.kind < 5 → Y.wt a + szD x ≤ B →
 Yx Tryd.prog EU l [encD x] h (fun v h' => ∃ a',Y.T a x v a' ∧ Kp (Y.own a) (Y.own a') h h' ∧ (if v then Y.G a' h' else Y.St a' h') ∧ Y.wt a' ≤ Y.wt a + szD x)
def leafR {A:Type} (Y:Yr A) (a:A) (h:Heap) (d:Dc) (v:V) (h':Heap):Prop:=v = .tup [] ∧ ∃ b a',RunY Y.T a (leavesD d) b a' ∧ Kp (Y.own a) (Y.own a') h h' ∧ (if b then Y.G a' h' else Y.St a' h') ∧ Y.wt a' ≤ Y.wt a + szD d
def innerY {A:Type} (Y:Yr A) (l l2 q:Nat) (tm:AM.T V) (dn:Nat):Yr A where
 own a p:=Y.own a p ∨ p = l2 ∨ p = q
 G a hh:=Y.G a hh ∧ (l2 < hh.n ∧ q < hh.n ∧ ¬ Y.own a l2 ∧ ¬ Y.own a q ∧ q ≠ l2) ∧ hh.get l2 = .loop .ready none 69 27 tm [21] (rAs Tryd.prog 69 0) (rBd Tryd.prog 69 0) dn ∧ hh.get q = .row 0 28 1 0 (some 1) [.func (.yield l) [] []]
 St a hh:=Y.St a hh ∧ (l2 < hh.n ∧ q < hh.n ∧ ¬ Y.own a l2 ∧ ¬ Y.own a q ∧ q ≠ l2) ∧ hh.get l2 = .loop .done (some .ret) 69 27 tm [21] (rAs Tryd.prog 69 0) (rBd Tryd.prog 69 0) dn ∧ hh.get q = .row 0 28 1 0 (some 1) [.func (.yield l) [] []]
 T:=Y.T
 wt:=Y.wt
 low:=by
  rintro a h r ⟨h1,h2,_⟩ (h3 | rfl | rfl)
  ·exact Y.low h1 h3
  ·exact h2.1
  ·exact h2.2.1
 stay:=by
  rintro a h h' ⟨h1,h2,h3,h4⟩ hn hr
  exact ⟨Y.stay h1 hn fun r ho => hr r (.inl ho),⟨by omega,by omega,h2.2.2⟩,by rw [hr l2 (.inr (.inl rfl))]; exact h3,by rw [hr q (.inr (.inr rfl))]; exact h4⟩
 stop:=by
  rintro a h h' ⟨h1,h2,h3,h4⟩ hn hr
  exact ⟨Y.stop h1 hn fun r ho => hr r (.inl ho),⟨by omega,by omega,h2.2.2⟩,by rw [hr l2 (.inr (.inl rfl))]; exact h3,by rw [hr q (.inr (.inr rfl))]; exact h4⟩
theorem innerOk {A:Type} {Y:Yr A} {l B l2 q dn:Nat} {tm:AM.T V} {v4 v13 v14 v15 v20:V} (hY:Y.Ok l B) (hT:TSat 27 [(2,.ptr q 0 0),(4,v4),(13,v13),(14,v14),(15,v15),(20,v20)] tm):(innerY Y l l2 q tm dn).Ok l2 B:=by
 rintro a h x ⟨hG,⟨w1,w2,w3,w4,w5⟩,hl2,hq⟩ hx hB
 refine Ev.yield (L0:=[(2,.ptr q 0 0),(4,v4),(13,v13),(14,v14),(15,v15),(20,v20)]) [2,21] [(2,.ptr q 0 0),(21,encD x)] hl2 hT (by kernel_rfl) ?_
 refine Wc.enter (Wl.bn0 0 1 [(2,(.ptr (q) 0 0)),(5,(.ptr (h.n) 0 0)),(21,(.agg [(.int .i64 (x.kind)),(.str (x.text)),(.int .i64 (x.n)),(.osl 4 (esD x))]))] (newRow h 26 4 0 (some 1) [V.agg [V.int .i64 0,V.str [],V.int .i64 0,V.nils]]) ?_)
 obtain ⟨h3,hst,n3,g3,g3u⟩:=fresh_var (P:=Tryd.prog) (h:=h) (t:=26) (ty:=26) (sz:=4) (c:=some 1) (z:=.agg [V.int IntKind.i64 0,V.str [],V.int IntKind.i64 0,V.nils]) (v:=encD x) (by kernel_rfl)
 obtain ⟨u,hu⟩:∃ u,u = h.n:=⟨_,rfl⟩
 rw [← hu] at hst g3u ⊢
 refine Wl.storeE (b:=roundB 69 27 l2) (t:=26) (a:=.ptr u 0 0) (v:=encD x) (d:=none) 1 [2,5] [(2,(.ptr (q) 0 0)),(5,(.ptr u 0 0))] (by kernel_rfl) hst (by kernel_rfl) ?_
 refine Wl.dn 2 ?_
 refine yBody.mk none (by rw [g3 l2 w1]; exact hl2) ?_
 obtain ⟨h4,hh4⟩:∃ h4,h4 = h3.set l2 (.loop .busy none 69 27 tm [21] (rAs Tryd.prog 69 0) (rBd Tryd.prog 69 0) dn):=⟨_,rfl⟩
 rw [← hh4]
 have n4:h4.n = h.n + 1:=by rw [hh4,Heap.n_set,n3]
 have g4:∀ p,p ≠ l2 → p < h.n → h4.get p = h.get p:=fun p hp hp2 => by rw [hh4,Heap.get_set,if_neg (fun e => hp e.symm),g3 p hp2]
 have g4l:h4.get l2 = .loop .busy none 69 27 tm [21] (rAs Tryd.prog 69 0) (rBd Tryd.prog 69 0) dn:=by rw [hh4,Heap.get_set,if_pos rfl]
 have g4u:h4.get u = .row 0 26 4 0 (some 1) [encD x]:=by rw [hh4,Heap.get_set,if_neg (by omega),g3u]
 have g4q:h4.get q = .row 0 28 1 0 (some 1) [.func (.yield l) [] []]:=by rw [g4 q w5 w2]; exact hq
 have lu:load Tryd.prog h4 26 (.ptr u 0 0) = some (encD x):=load_get g4u (by kernel_rfl)
 have lq:load Tryd.prog h4 28 (.ptr q 0 0) = some (.func (.yield l) [] []):=load_get g4q (by kernel_rfl)
 have hG4:Y.G a h4:=Y.stay hG (by omega) fun p hp => g4 p (fun e => w3 (by rw [← e]; exact hp)) (Y.low hG hp)
 refine Wc.block (Wc.seq (Wc.enter (Wl.l 0 [(2,(.ptr (q) 0 0)),(5,(.ptr (u) 0 0)),(22,(.func (.yield (l)) [] []))] (@lq) ?_)))
 refine Wl.l 1 [(23,(.agg [(.int .i64 (x.kind)),(.str (x.text)),(.int .i64 (x.n)),(.osl 4 (esD x))]))] (@lu) ?_
 refine Wl.yieldX (b:=roundB 69 27 l2) (l:=l) (args:=[encD x]) (h1:=h4) (d:=some 24) 2 (by kernel_rfl) ((hY hG4 hx hB).mono ?_)
 rintro v h5 ⟨a',t1,t2,t3,t4⟩
 have hl':¬ Y.own a' l2:=fun e => (t2.2.2 l2 e).elim w3 (by omega)
 have hq':¬ Y.own a' q:=fun e => (t2.2.2 q e).elim w4 (by omega)
 have g5l:h5.get l2 = .loop .busy none 69 27 tm [21] (rAs Tryd.prog 69 0) (rBd Tryd.prog 69 0) dn:=by rw [t2.2.1 l2 (by omega) w3]; exact g4l
 have g5q:h5.get q = .row 0 28 1 0 (some 1) [.func (.yield l) [] []]:=by rw [t2.2.1 q (by omega) w4]; exact g4q
 have n5:=t2.1
 have hK:∀ o,Kp (fun p => Y.own a p ∨ p = l2 ∨ p = q) (fun p => Y.own a' p ∨ p = l2 ∨ p = q) h (h5.set l2 o):=fun o => by
  refine ⟨by rw [Heap.n_set]; omega,fun r hr ho => ?_,fun r hr => ?_⟩
  ·simp only [not_or] at ho
   rw [Heap.get_set,if_neg (fun e => ho.2.1 e.symm),t2.2.1 r (by omega) ho.1,g4 r ho.2.1 hr]
  rcases hr with e | e
  ·rcases t2.2.2 r e with e | e
   ·exact .inl (.inl e)
   exact .inr (by omega)
  exact .inl (.inr e)
 have hS:∀ o r,Y.own a' r → (h5.set l2 o).get r = h5.get r:=fun o r hr => by rw [Heap.get_set,if_neg (fun e => hl' (by rw [e]; exact hr))]
 have hb:∀ o,l2 < (h5.set l2 o).n ∧ q < (h5.set l2 o).n ∧ ¬ Y.own a' l2 ∧ ¬ Y.own a' q ∧ q ≠ l2:=fun o => by rw [Heap.n_set]; exact ⟨by omega,by omega,hl',hq',w5⟩
 have hgq:∀ o,(h5.set l2 o).get q = .row 0 28 1 0 (some 1) [.func (.yield l) [] []]:=fun o => by rw [Heap.get_set,if_neg (fun e => w5 e.symm)]; exact g5q
 cases v with
 | true =>
  refine yNext.mk [24] [(24,.bool true)] (by kernel_rfl) ?_
  refine Wl.bn0 3 4 [(25,(.bool false))] h5 ?_
  refine Wl.dn 4 (Wc.cf (Wc.skip ?_))
  exact yEnd.mk none g5l ⟨a',t1,hK _,⟨Y.stay (h':=h5.set l2 _) t3 (by rw [Heap.n_set]; exact Nat.le_refl _) (hS _),hb _,by rw [Heap.get_set,if_pos rfl],hgq _⟩,t4⟩
 | false =>
  refine yNext.mk [24] [(24,.bool false)] (by kernel_rfl) ?_
  refine Wl.bn0 3 4 [(25,(.bool true))] h5 ?_
  refine Wl.dn 4 (Wc.ct (Wc.ret (blockX.ret ?_)))
  exact yOut.ret none g5l ⟨a',t1,hK _,⟨Y.stop (h':=h5.set l2 _) t3 (by rw [Heap.n_set]; exact Nat.le_refl _) (hS _),hb _,by rw [Heap.get_set,if_pos rfl],hgq _⟩,t4⟩
def leafB (ms:List Nat):Fr:=⟨69,27,.e,ms,[],none,none,false⟩
def leafI {A:Type} (Y:Yr A) (a:A) (h1:Heap) (q l:Nat) (d:Dc) (s:Nat × A × Heap × List Nat):Prop :=
 s.1 ≤ d.kids.length ∧ RunY Y.T a (leavesK d.kids s.1) true s.2.1 ∧ Kp (Y.own a) (Y.own s.2.1) h1 s.2.2.1 ∧ Y.G s.2.1 s.2.2.1 ∧ Y.wt s.2.1 ≤ Y.wt a + sumK d.kids s.1 ∧ (∀ m,m ∈ s.2.2.2 → h1.n ≤ m ∧ m < s.2.2.1.n ∧ s.2.2.1.get m = .defs ∧ ¬ Y.own s.2.1 m) ∧ s.2.2.2.Nodup ∧ s.2.2.1.get q = .row 0 28 1 0 (some 1) [.func (.yield l) [] []]
theorem cLeaf {B:Nat} (hB9:B ≤ 1000000000):∀ (n:Nat) {d:Dc},szD d ≤ n → ∀ {l:Nat} {A:Type} (Y:Yr A),Y.Ok l B → ∀ {a:A} {h:Heap} {r:Nat},Y.G a h → h.get r = .row 0 26 4 0 (some 1) [encD d] → ¬ Y.own a r → r < h.n → Y.wt a + szD d ≤ B → Cx Tryd.prog EU 69 [.func (.yield l) [] [],.ptr r 0 0] h (leafR Y a h d):=by
 intro n
 induction n with
 | zero => intro d h0; have:=szD_pos d; omega
 | succ n IH =>
  intro d hd l A Y hY a h r hG hr hor hrn hB
  refine Ev.body (fn:=Tryd.f69) Tryd.func69 rfl (by kernel_rfl) ?_
  refine Wc.seq ?_
  obtain ⟨q,hq⟩:∃ q,q = h.n:=⟨_,rfl⟩
  obtain ⟨h1,hh1⟩:∃ h1,h1 = newRow h 28 1 0 (some 1) [.func (.yield l) [] []]:=⟨_,rfl⟩
  have n1:h1.n = h.n + 1:=by rw [hh1]; exact newRow_n _ _ _ _ _ _
  have g1:∀ p,p < h.n → h1.get p = h.get p:=fun p hp => by rw [hh1,newRow_get,if_neg (by omega)]
  have g1r:h1.get r = .row 0 26 4 0 (some 1) [encD d]:=by rw [g1 r hrn]; exact hr
  have g1q:h1.get q = .row 0 28 1 0 (some 1) [.func (.yield l) [] []]:=by rw [hh1,newRow_get,if_pos hq.symm]
  have hqo:¬ Y.own a q:=fun e => by have:=Y.low hG e; omega
  have hqr:q ≠ r:=by omega
  have hq1:q < h1.n:=by omega
  have hG1:Y.G a h1:=Y.stay hG (by omega) fun p hp => g1 p (Y.low hG hp)
  have hK1:Kp (Y.own a) (Y.own a) h h1:=⟨by omega,fun p hp _ => g1 p hp,fun _ q => .inl q⟩
  have lk:load Tryd.prog h1 3 (.ptr r 0 0) = some (.int .i64 d.kind):=load_get g1r (by kernel_rfl)
  have ly:load Tryd.prog h1 28 (.ptr q 0 0) = some (.func (.yield l) [] []):=load_get g1q (by kernel_rfl)
  have ld:load Tryd.prog h1 26 (.ptr r 0 0) = some (encD d):=load_get g1r (by kernel_rfl)
  have lc:load Tryd.prog h1 24 (.ptr r 0 3) = some (.osl 4 (esD d)):=load_get g1r (by kernel_rfl)
  refine Wc.whole (b:=(base 69 27)) [0,1,2] [(0,(.func (.yield (l)) [] [])),(1,(.ptr (r) 0 0)),(2,(.ptr q 0 0))] h1 [] (by subst hh1; subst hq; kernel_rfl) .nil ?_
  refine Wc.seq (Wc.seq (Wc.enter (Wl.bn0 0 1 [(0,(.func (.yield (l)) [] [])),(1,(.ptr (r) 0 0)),(2,(.ptr (q) 0 0)),(6,(.ptr (r) 0 0))] h1 ?_)))
  refine Wl.l 1 [(7,(.int .i64 (d.kind)))] (@lk) ?_
  refine Wl.b0 2 3 [(8,(.bool (decide (d.kind < 5))))] ?_
  refine Wl.dn 3 ?_
  refine Wc.cq (p:=d.kind < 5) (fun c1 => ?_) (fun c1 => ?_)
  ·refine Wc.seq (Wc.enter (Wl.l 0 [(9,(.func (.yield (l)) [] []))] (@ly) ?_))
   refine Wl.l 1 [(10,(.agg [(.int .i64 (d.kind)),(.str (d.text)),(.int .i64 (d.n)),(.osl 4 (esD d))]))] (@ld) ?_
   refine Wl.yieldX (b:=base 69 27) (l:=l) (args:=[encD d]) (h1:=h1) (d:=some 11) 2 (by kernel_rfl) ((hY hG1 c1 hB).mono ?_)
   rintro v h2 ⟨a',t1,t2,t3,t4⟩
   refine yNext.mk [] [] (by kernel_rfl) ?_
   refine Wl.dn 3 (Wc.ret ?_)
   refine retX.mk (.tup []) ⟨rfl,rfl⟩ (by kernel_rfl) ?_
   refine ⟨rfl,v,a',?_,hK1.trans t2,t3,t4⟩
   rw [leavesD_eq,if_pos c1]
   cases v with
   | true => exact .cons t1 (.nil _)
   | false => exact .stop t1
  refine Wc.skip (Wc.seq (Wc.enter (Wl.b0 0 1 [(12,(.ptr (r) 0 3))] ?_)))
  refine Wl.l 1 [(13,(.osl 4 (esD d)))] (@lc) ?_
  refine Wl.b0 2 4 [(14,(.int .i64 ((List.length (esD d):Int)))),(15,(.int .i64 0))] ?_
  refine Wl.dn 4 (Wc.block ?_)
  have hlen:(esD d).length = d.kids.length:=esD_len d
  rw [hlen]
  have hszl:=szD_len d
  refine Wc.loopV (α:=Nat × A × Heap × List Nat) (fun s => (leafB s.2.2.2).on [(2,.ptr q 0 0),(13,.osl 4 (esD d)),(14,.int .i64 (d.kids.length:Int)),(15,.int .i64 (s.1:Int))]) (fun s => s.2.2.1) (leafI Y a h1 q l d) (fun s => d.kids.length - s.1) (0,a,h1,[]) (Vw.le (Le.on [2,13,14,15] (by kernel_rfl))) ⟨Nat.zero_le _,.nil _,.refl _ _,hG1,by simp,fun _ hm => by simp at hm,List.nodup_nil,g1q⟩ ?_
  rintro ⟨i,a1,h2,ms⟩ ⟨i1,i2,i3,i4,i5,i6,i7,i8⟩
  have i1:i ≤ d.kids.length:=i1
  have i8:h2.get q = .row 0 28 1 0 (some 1) [.func (.yield l) [] []]:=i8
  simp only
  have ldk:=fun c2:i < d.kids.length => ldKid (h:=h2) d i c2
  refine Wc.seq (Wc.wn0 [(2,(.ptr (q) 0 0)),(13,(.osl 4 (esD d))),(14,(.int .i64 ((List.length d.kids:Int)))),(15,(.int .i64 (i:Int))),(16,(.bool (decide ((i:Int) < (List.length d.kids:Int)))))] h2 ?_)
  refine Wc.seq ?_
  refine Wc.cq (p:=(i:Int) < (List.length d.kids:Int)) (fun c2 => ?_) (fun c2 => ?_)
  ·refine Wc.skip (Wc.seq (Wc.block (Wc.seq (Wc.enter (Wl.bs 0 1 [(17,(.gptr 4 (esD d) (i * 4)))] [((0 ≤ (i:Int)) ∧ ((i:Int) < (List.length (esD d):Int)))] (.cons (by omega) .nil) ?_)))))
   refine Wl.l 1 [(18,(.agg [(.int .i64 ((List.getD d.kids i dc0).kind)),(.str ((List.getD d.kids i dc0).text)),(.int .i64 ((List.getD d.kids i dc0).n)),(.osl 4 (esD (List.getD d.kids i dc0)))]))] (@Go.AM.ldKid (h2) (d) (i) (by omega)) ?_
   refine Wl.bn0 2 3 [(4,(.ptr (h2.n) 0 0))] (newRow h2 26 4 0 (some 1) [V.agg [V.int .i64 0,V.str [],V.int .i64 0,V.nils]]) ?_
   obtain ⟨k,hk⟩:∃ k,k = List.getD d.kids i dc0:=⟨_,rfl⟩
   obtain ⟨u,hu⟩:∃ u,u = h2.n:=⟨_,rfl⟩
   rw [← hk,← hu]
   have hst:=store_get (P:=Tryd.prog) (t:=26) (off:=0) (v:=encD k) (o:=.row 0 26 4 0 (some 1) [V.agg [V.int IntKind.i64 0,V.str [],V.int IntKind.i64 0,V.nils]]) (o':=.row 0 26 4 0 (some 1) [encD k]) (h:=newRow h2 26 4 0 (some 1) [V.agg [V.int IntKind.i64 0,V.str [],V.int IntKind.i64 0,V.nils]]) (r:=u) (ver:=0) (by rw [newRow_get,if_pos hu.symm]) (by kernel_rfl)
   obtain ⟨h3,hh3⟩:∃ h3,h3 = (newRow h2 26 4 0 (some 1) [V.agg [V.int IntKind.i64 0,V.str [],V.int IntKind.i64 0,V.nils]]).set u (.row 0 26 4 0 (some 1) [encD k]):=⟨_,rfl⟩
   rw [← hh3] at hst
   have n3:h3.n = h2.n + 1:=by rw [hh3,Heap.n_set,newRow_n]
   have g3:∀ p,p < h2.n → h3.get p = h2.get p:=fun p hp => by rw [hh3,Heap.get_set,if_neg (by omega),newRow_get,if_neg (by omega)]
   have g3u:h3.get u = .row 0 26 4 0 (some 1) [encD k]:=by rw [hh3,Heap.get_set,if_pos rfl]
   refine Wl.storeE (b:=({ base 69 27 with marks:=ms })) (t:=26) (a:=.ptr u 0 0) (v:=encD k) (d:=none) 3 [2,4,13,14,15] [(2,(.ptr (q) 0 0)),(4,(.ptr u 0 0)),(13,(.osl 4 (esD d))),(14,(.int .i64 ((List.length d.kids:Int)))),(15,(.int .i64 (i:Int)))] (by kernel_rfl) hst (by kernel_rfl) ?_
   have lu:load Tryd.prog h3 26 (.ptr u 0 0) = some (encD k):=load_get g3u (by kernel_rfl)
   refine Wl.dn 4 (Wc.seq (Wc.enter (Wl.l 0 [(2,(.ptr (q) 0 0)),(4,(.ptr (u) 0 0)),(13,(.osl 4 (esD d))),(14,(.int .i64 ((List.length d.kids:Int)))),(15,(.int .i64 (i:Int))),(19,(.agg [(.int .i64 (k.kind)),(.str (k.text)),(.int .i64 (k.n)),(.osl 4 (esD k))]))] (@lu) ?_)))
   refine Wl.s 1 [(20,(.func (.func 69) [] [(.ptr (h3.n) 0 0)]))] (@Go.AM.cLeaves (h3) (k)) ?_
   refine Wl.dn 2 (Wc.block ?_)
   obtain ⟨h4,hh4⟩:∃ h4,h4 = newRow h3 26 4 0 (some 1) [encD k]:=⟨_,rfl⟩
   rw [← hh4]
   obtain ⟨w,hw⟩:∃ w,w = h3.n:=⟨_,rfl⟩
   rw [← hw]
   have n4:h4.n = h2.n + 2:=by rw [hh4,newRow_n]; omega
   have g4:∀ p,p < h2.n → h4.get p = h2.get p:=fun p hp => by rw [hh4,newRow_get,if_neg (by omega),g3 p hp]
   have g4w:h4.get w = .row 0 26 4 0 (some 1) [encD k]:=by rw [hh4,newRow_get,if_pos hw.symm]
   refine Wc.rangeAs (f:=.tmp 20) (params:=#[21]) (b:=({ base 69 27 with marks:=ms })) (q:=69) (args:=[(.func (.yield (h4.n + 1)) [] []),.ptr w 0 0]) (rAs Tryd.prog 69 0) (rBd Tryd.prog 69 0) (by kernel_rfl) rfl rfl (by kernel_rfl) (fun tm hT => ?_)
   obtain ⟨l2,hl2⟩:∃ l2,l2 = h4.n + 1:=⟨_,rfl⟩
   rw [← hl2]
   obtain ⟨h6,hh6⟩:∃ h6,h6 = (h4.new .defs).new (.loop .ready none 69 27 tm [21] (rAs Tryd.prog 69 0) (rBd Tryd.prog 69 0) h4.n):=⟨_,rfl⟩
   have i3:Kp (Y.own a) (Y.own a1) h1 h2:=i3
   have i6:∀ m,m ∈ ms → h1.n ≤ m ∧ m < h2.n ∧ h2.get m = .defs ∧ ¬ Y.own a1 m:=i6
   have i2:RunY Y.T a (leavesK d.kids i) true a1:=i2
   have i4:Y.G a1 h2:=i4
   have i5:Y.wt a1 ≤ Y.wt a + sumK d.kids i:=i5
   have hi:i < d.kids.length:=by omega
   have hsk:=sumK_succ d.kids hi
   have hsl:=sumK_le d (i:=i + 1) hi
   have hkz:=szD_kid d hi
   rw [← hk] at hsk hkz
   have n12:=i3.1
   have n6:h6.n = h4.n + 2:=by rw [hh6,Heap.n_new,Heap.n_new]
   have g6:∀ p,p < h4.n → h6.get p = h4.get p:=fun p hp => by rw [hh6,Heap.get_new,if_neg (by rw [Heap.n_new]; omega),Heap.get_new,if_neg (by omega)]
   have g6d:h6.get h4.n = .defs:=by rw [hh6,Heap.get_new,if_neg (by rw [Heap.n_new]; omega),Heap.get_new,if_pos rfl]
   have g6l:h6.get l2 = .loop .ready none 69 27 tm [21] (rAs Tryd.prog 69 0) (rBd Tryd.prog 69 0) h4.n:=by rw [hh6,Heap.get_new,if_pos (by rw [Heap.n_new,hl2])]
   have g62:∀ p,p < h2.n → h6.get p = h2.get p:=fun p hp => by rw [g6 p (by omega),g4 p hp]
   have hlo:∀ p,Y.own a1 p → p < h2.n:=fun p hp => Y.low i4 hp
   have hq1':¬ Y.own a1 q:=fun e => (i3.2.2 q e).elim hqo (by omega)
   have hG6:(innerY Y l l2 q tm h4.n).G a1 h6:=⟨Y.stay i4 (by omega) fun p hp => g62 p (hlo p hp),⟨by omega,by omega,fun e => by have:=hlo _ e; omega,hq1',by omega⟩,g6l,by rw [g62 q (by omega)]; exact i8⟩
   have hcx:=IH (d:=k) (by omega) (innerY Y l l2 q tm h4.n) (innerOk (v4:=.ptr u 0 0) (v13:=.osl 4 (esD d)) (v14:=.int .i64 (d.kids.length:Int)) (v15:=.int .i64 (i:Int)) (v20:=.func (.func 69) [] [.ptr w 0 0]) hY hT.keep) (a:=a1) (h:=h6) (r:=w) hG6 (by rw [g6 w (by omega)]; exact g4w) (fun e => by
    rcases e with e | e | e
    ·have:=hlo _ e; omega
    ·omega
    omega) (by omega) (by show Y.wt a1 + szD k ≤ B; omega)
   rw [hh6] at hcx
   refine hcx.mono ?_
   rw [← hh6]
   rintro v h7 ⟨rfl,b,a2,r1,r2,r3,r4⟩
   have r4:Y.wt a2 ≤ Y.wt a1 + szD k:=r4
   have n7:h6.n ≤ h7.n:=r2.1
   have k7:∀ p,p < h2.n → ¬ Y.own a1 p → p ≠ q → h7.get p = h2.get p:=fun p hp ho hpq => by
    rw [r2.2.1 p (by omega) (fun e => ?_),g62 p hp]
    rcases e with e | e | e
    ·exact ho e
    ·omega
    exact hpq e
   have o7:∀ p,Y.own a2 p → Y.own a1 p ∨ h6.n ≤ p:=fun p hp => by
    rcases r2.2.2 p (.inl hp) with (e | e | e) | e
    ·exact .inl e
    ·subst e
     exfalso
     cases b with
     | true => exact r3.2.1.2.2.1 hp
     | false => exact r3.2.1.2.2.1 hp
    ·subst e
     exfalso
     cases b with
     | true => exact r3.2.1.2.2.2.1 hp
     | false => exact r3.2.1.2.2.2.1 hp
    exact .inr e
   have d7:h7.get h4.n = .defs:=by
    rw [r2.2.1 h4.n (by omega) (fun e => ?_)]
    ·exact g6d
    rcases e with e | e | e
    ·have:=hlo _ e; omega
    ·omega
    omega
   have hl2':¬ Y.own a2 l2:=fun e => (o7 _ e).elim (fun e => by have:=hlo _ e; omega) (fun e => by omega)
   have q7:h7.get q = .row 0 28 1 0 (some 1) [.func (.yield l) [] []]:=by
    cases b with
    | true => exact r3.2.2.2
    | false => exact r3.2.2.2
   have kp7:∀ o,Kp (Y.own a) (Y.own a2) h1 (h7.set l2 o):=fun o => by
    refine ⟨by rw [Heap.n_set]; omega,fun p hp ho => ?_,fun p hp => ?_⟩
    ·have ho1:¬ Y.own a1 p:=fun e => (i3.2.2 p e).elim ho (by omega)
     rw [Heap.get_set,if_neg (by omega)]
     by_cases hpq:p = q
     ·subst hpq; rw [q7,g1q]
     rw [k7 p (by omega) ho1 hpq,i3.2.1 p hp ho]
    rcases o7 p hp with e | e
    ·exact i3.2.2 p e
    exact .inr (by omega)
   have mk7:∀ m,m ∈ h4.n :: ms → h1.n ≤ m ∧ m < h7.n ∧ (∀ o,(h7.set l2 o).get m = .defs) ∧ ¬ Y.own a2 m:=fun m hm => by
    rcases List.mem_cons.1 hm with e | e
    ·subst e
     refine ⟨by omega,by omega,fun o => by rw [Heap.get_set,if_neg (by omega)]; exact d7,fun e => ?_⟩
     rcases o7 _ e with e | e
     ·have:=hlo _ e; omega
     omega
    obtain ⟨m1,m2,m3,m4⟩:=i6 m e
    refine ⟨m1,by omega,fun o => by rw [Heap.get_set,if_neg (by omega),k7 m m2 m4 (by omega)]; exact m3,fun e => ?_⟩
    rcases o7 _ e with e | e
    ·exact m4 e
    omega
   have nd7:(h4.n :: ms).Nodup:=List.nodup_cons.2 ⟨fun e => by have:=(i6 _ e).2.1; omega,i7⟩
   have own7:∀ o p,Y.own a2 p → (h7.set l2 o).get p = h7.get p:=fun o p hp => by rw [Heap.get_set,if_neg (fun e => hl2' (by rw [e]; exact hp))]
   have rn7:RunY Y.T a (leavesK d.kids (i + 1)) b a2:=by rw [leavesK_succ d.kids hi,← hk]; exact i2.app r1
   cases b with
   | true =>
    obtain ⟨e1,e2,e3,e4⟩:=r3
    refine rEnd.mk .ready tm e3 (by simp) ?_
    have hn8:∀ o,(h7.set l2 o).get q = .row 0 28 1 0 (some 1) [.func (.yield l) [] []]:=fun o => by rw [Heap.get_set,if_neg (by omega)]; exact q7
    have hI:∀ o,leafI Y a h1 q l d (i + 1,a2,h7.set l2 o,h4.n :: ms):=fun o => ⟨hi,rn7,kp7 o,Y.stay e1 (by rw [Heap.n_set]; exact Nat.le_refl _) (own7 o),by show Y.wt a2 ≤ _; rw [hsk]; omega,fun m hm => ⟨(mk7 m hm).1,(mk7 m hm).2.1,(mk7 m hm).2.2.1 o,(mk7 m hm).2.2.2⟩,nd7,hn8 o⟩
    obtain ⟨h8,hh8⟩:∃ h8,h8 = h7.set l2 (.loop .exhausted none 69 27 tm [21] (rAs Tryd.prog 69 0) (rBd Tryd.prog 69 0) h4.n):=⟨_,rfl⟩
    have hI8:=hI (.loop .exhausted none 69 27 tm [21] (rAs Tryd.prog 69 0) (rBd Tryd.prog 69 0) h4.n)
    rw [← hh8] at hI8
    change Wc Tryd.prog EU _ _ (h7.set l2 (.loop .exhausted none 69 27 tm [21] (rAs Tryd.prog 69 0) (rBd Tryd.prog 69 0) h4.n)) _ _ _
    rw [← hh8]
    refine Wc.wn [(2,(.ptr (q) 0 0)),(4,(.ptr (u) 0 0)),(13,(.osl 4 (esD d))),(14,(.int .i64 ((List.length d.kids:Int)))),(15,(.int .i64 ((i:Int) + 1))),(20,(.func (.func 69) [] [(.ptr (w) 0 0)]))] h8 [(i64r ((i:Int) + 1))] (.cons (by omega) .nil) ?_
    have e15:(i:Int) + 1 = ((i + 1:Nat):Int):=by omega
    rw [e15]
    exact ⟨(i + 1,a2,h8,h4.n :: ms),Vw.le (Le.on [2,13,14,15] (by kernel_rfl)),hI8,by show d.kids.length - (i + 1) < d.kids.length - i; omega⟩
   | false =>
    obtain ⟨e1,e2,e3,e4⟩:=r3
    refine rEnd.mkC .done .ret tm e3 (by simp) ?_
    change Wc Tryd.prog EU .ret _ (h7.set l2 (.loop .exhausted (some .ret) 69 27 tm [21] (rAs Tryd.prog 69 0) (rBd Tryd.prog 69 0) h4.n)) _ _ _
    obtain ⟨h8,hh8⟩:∃ h8,h8 = h7.set l2 (.loop .exhausted (some .ret) 69 27 tm [21] (rAs Tryd.prog 69 0) (rBd Tryd.prog 69 0) h4.n):=⟨_,rfl⟩
    rw [← hh8]
    obtain ⟨h9,k1,k2,k3⟩:=killMarks_get (h:=h8) (fun m hm => by rw [hh8]; exact (mk7 m hm).2.2.1 _) nd7
    refine Wc.ret (blockX.ret ?_)
    refine blockX.ret ?_
    refine blockX.ret ?_
    have hk8:Kp (Y.own a) (Y.own a2) h h8:=by rw [hh8]; exact hK1.trans (kp7 _)
    have mk8:∀ p,p < h1.n ∨ Y.own a2 p → h9.get p = h8.get p:=fun p hp => k3 p fun hm => by
     obtain ⟨m1,m2,m3,m4⟩:=mk7 p hm
     rcases hp with e | e
     ·omega
     exact m4 e
    refine retX.marks h9 (.tup []) rfl k1 (by kernel_rfl) ⟨rfl,false,a2,?_,?_,?_,?_⟩
    ·rw [leavesD_eq,if_neg c1]
     have e:(d.kids.map leavesD).flatten = leavesK d.kids (i + 1) ++ ((d.kids.drop (i + 1)).map leavesD).flatten:=by
      unfold leavesK
      rw [← List.flatten_append,← List.map_append,List.take_append_drop]
     rw [e]; exact rn7.left _
    ·refine ⟨by have:=hk8.1; omega,fun p hp ho => ?_,hk8.2.2⟩
     rw [mk8 p (.inl (by omega)),hk8.2.1 p hp ho]
    ·refine Y.stop e1 (by rw [k2,hh8,Heap.n_set]; exact Nat.le_refl _) fun p hp => ?_
     rw [mk8 p (.inr hp),hh8,own7 _ p hp]
    omega
  refine Wc.exit (blockX.here ?_)
  have hi:i = d.kids.length:=by omega
  obtain ⟨h3,k1,k2,k3⟩:=killMarks_get (h:=h2) (fun m hm => (i6 m hm).2.2.1) i7
  have i3:Kp (Y.own a) (Y.own a1) h1 h2:=i3
  have i6:∀ m,m ∈ ms → h1.n ≤ m ∧ m < h2.n ∧ h2.get m = .defs ∧ ¬ Y.own a1 m:=i6
  have i2:RunY Y.T a (leavesK d.kids i) true a1:=i2
  have i4:Y.G a1 h2:=i4
  have i5:Y.wt a1 ≤ Y.wt a + sumK d.kids i:=i5
  have hne:∀ p,p < h1.n ∨ Y.own a1 p → h3.get p = h2.get p:=fun p hp => k3 p fun hm => by
   obtain ⟨m1,m2,m3,m4⟩:=i6 p hm
   rcases hp with e | e
   ·omega
   exact m4 e
  refine retX.marks h3 (.tup []) rfl k1 (by kernel_rfl) ⟨rfl,true,a1,?_,?_,?_,?_⟩
  ·rw [leavesD_eq,if_neg c1]
   have e:leavesK d.kids i = (d.kids.map leavesD).flatten:=by rw [hi]; unfold leavesK; rw [List.take_length]
   rw [← e]; exact i2
  ·have hk:=hK1.trans i3
   refine ⟨by have:=hk.1; omega,fun p hp ho => ?_,hk.2.2⟩
   rw [hne p (.inl (by omega)),hk.2.1 p hp ho]
  ·exact Y.stay i4 (by omega) fun p hp => hne p (.inr hp)
  have:=sumK_le d i1; omega
end Go.AM
namespace Go.AM
open Go.Proofs
set_option maxRecDepth 100000
set_option maxHeartbeats 4000000
def bldO (a b:V):Obj:=.row 0 49 2 0 (some 1) [.agg [a,b]]
theorem cCopy {h:Heap} {r:Nat} {b:V} (hg:h.get r = bldO .nilp b):Cs Tryd.prog EU 62 [.ptr r 0 0] h (.tup []) (h.set r (bldO (.ptr r 0 0) b)):=by
 refine Cs.body (fn:=Tryd.f62) Tryd.func62 rfl (by kernel_rfl) ?_
 have l0:load Tryd.prog h 47 (.ptr r 0 0) = some .nilp:=load_get hg (by kernel_rfl)
 refine Wc.seq (Wc.enter (Wl.bn0 0 3 [(0,(.ptr (r) 0 0)),(4,(.ptr (r) 0 0))] h ?_))
 refine Wl.l 3 [(5,.nilp)] (@l0) ?_
 refine Wl.b0 4 5 [(6,(.bool true))] ?_
 refine Wl.dn 5 (Wc.ct (Wc.enter (Wl.b0 0 2 [(7,(.ptr (r) 0 0)),(8,(.ptr (r) 0 0))] ?_)))
 refine Wl.opE (b:=base 62 20) 2 (ofOpt h (convert Tryd.prog 47 112 h (.ptr r 0 0))) (.ptr r 0 0) [7,9] [(7,.ptr r 0 0),(9,.ptr r 0 0)] (by kernel_rfl) (by kernel_rfl) (by rw [convert_get hg (by kernel_rfl)]; rfl) (by kernel_rfl) ?_
 refine Wl.s 3 [(7,(.ptr (r) 0 0)),(10,(.ptr (r) 0 0))] (@Go.AM.c74 (h) (r) (0) (0)) ?_
 refine Wl.opE (b:=base 62 20) 4 (ofOpt h (convert Tryd.prog 112 47 h (.ptr r 0 0))) (.ptr r 0 0) [7,11] [(7,.ptr r 0 0),(11,.ptr r 0 0)] (by kernel_rfl) (by kernel_rfl) (by rw [convert_get hg (by kernel_rfl)]; rfl) (by kernel_rfl) ?_
 refine Wl.bn0 5 7 [(11,(.ptr (r) 0 0)),(13,(.ptr (r) 0 0))] h ?_
 refine Wl.storeE (b:=base 62 20) (t:=47) (a:=.ptr r 0 0) (v:=.ptr r 0 0) (d:=none) 7 [] [] (by kernel_rfl) (store_get hg (o':=bldO (.ptr r 0 0) b) (by kernel_rfl)) (by kernel_rfl) ?_
 refine Wl.dn 8 ?_
 refine retX.mk (.tup []) ⟨rfl,rfl⟩ (by kernel_rfl) ?_
 exact ⟨by kernel_rfl,by kernel_rfl⟩
theorem cCopy' {h:Heap} {r:Nat} {b:V} (hg:h.get r = bldO (.ptr r 0 0) b):Cs Tryd.prog EU 62 [.ptr r 0 0] h (.tup []) h:=by
 refine Cs.body (fn:=Tryd.f62) Tryd.func62 rfl (by kernel_rfl) ?_
 have l0:load Tryd.prog h 47 (.ptr r 0 0) = some (.ptr r 0 0):=load_get hg (by kernel_rfl)
 refine Wc.seq (Wc.enter (Wl.bn0 0 3 [(0,(.ptr (r) 0 0)),(4,(.ptr (r) 0 0))] h ?_))
 refine Wl.l 3 [(5,(.ptr (r) 0 0))] (@l0) ?_
 refine Wl.b0 4 5 [(6,(.bool false))] ?_
 refine Wl.dn 5 (Wc.cf (Wc.seq (Wc.enter (Wl.b0 0 3 [(16,(.ptr (r) 0 0))] ?_))))
 refine Wl.l 3 [(17,(.ptr (r) 0 0))] (@l0) ?_
 refine Wl.b0 4 5 [(18,(.ptr (r) 0 0))] ?_
 refine Wl.opE (b:=base 62 20) 5 (ofOpt h (binOp Tryd.prog h 47 false .neq (.ptr r 0 0) (.ptr r 0 0))) (.bool false) [19] [(19,.bool false)] (by kernel_rfl) (by kernel_rfl) (by rw [neq_self hg (by kernel_rfl)]; rfl) (by kernel_rfl) ?_
 refine Wl.dn 6 (Wc.cf (Wc.skip ?_))
 refine retX.mk (.tup []) ⟨rfl,rfl⟩ (by kernel_rfl) ?_
 exact ⟨by kernel_rfl,by kernel_rfl⟩
structure Bd (h:Heap) (r rb:Nat) (s:List UInt8):Prop where
 lt:r < h.n
 row:∃ a b,h.get r = bldO a b ∧ (a = .nilp ∨ a = .ptr r 0 0) ∧ ((s = [] ∧ b = .nils) ∨ (s ≠ [] ∧ rb ≠ r ∧ rb < h.n ∧ ∃ ver,b = .sl rb ver 0 s.length none ∧ h.get rb = .row ver 5 1 0 none (s.map bV)))
def bdOwn (r rb:Nat) (s:List UInt8) (p:Nat):Prop:=p = r ∨ (s ≠ [] ∧ p = rb)
theorem cCopyX {h:Heap} {r:Nat} {a b:V} (hg:h.get r = bldO a b) (ha:a = .nilp ∨ a = .ptr r 0 0):∃ h',Cs Tryd.prog EU 62 [.ptr r 0 0] h (.tup []) h' ∧ h'.n = h.n ∧ (∀ p,p ≠ r → h'.get p = h.get p) ∧ h'.get r = bldO (.ptr r 0 0) b:=by
 rcases ha with rfl | rfl
 ·exact ⟨_,cCopy hg,Heap.n_set _ _ _,fun p hp => by rw [Heap.get_set,if_neg (fun e => hp e.symm)],by rw [Heap.get_set,if_pos rfl]⟩
 ·exact ⟨_,cCopy' hg,rfl,fun _ _ => rfl,hg⟩
theorem bdApp {h:Heap} {r rb:Nat} {s t:List UInt8} {b:V} (hr:h.get r = bldO (.ptr r 0 0) b) (hrn:r < h.n) (hb:(s = [] ∧ b = .nils) ∨ (s ≠ [] ∧ rb ≠ r ∧ rb < h.n ∧ ∃ ver,b = .sl rb ver 0 s.length none ∧ h.get rb = .row ver 5 1 0 none (s.map bV))) {u:TypeId} {y:V} (hu:notIntT Tryd.prog u = true) (hn:newS Tryd.prog h 1 y = some (t.map bV)) (ht:t ≠ []) (hl:s.length + t.length ≤ 1000000000) :
  ∃ v h1,builtin Tryd.prog .append [22,u] h [b,y] = .val v h1 ∧ h1.get r = bldO (.ptr r 0 0) b ∧ h.n ≤ h1.n ∧ (∀ p,p < h.n → (s ≠ [] → p ≠ rb) → h1.get p = h.get p) ∧ ∃ rb',(s ≠ [] → rb' = rb) ∧ (s = [] → h.n ≤ rb') ∧ ∃ ver,v = .sl rb' ver 0 (s ++ t).length none ∧ h1.get rb' = .row ver 5 1 0 none ((s ++ t).map bV) ∧ rb' ≠ r ∧ rb' < h1.n:=by
 have e22:sliceElem Tryd.prog 22 = some 5:=by kernel_rfl
 have es:size Tryd.prog 5 = 1:=by kernel_rfl
 have eb:Tryd.prog.bytesOf 5 = 1:=by kernel_rfl
 have ez:(Nat.beq (size Tryd.prog 5) 0 || !(zeroOk Tryd.prog 5)) = false:=by kernel_rfl
 have hne:t.map bV ≠ []:=by simpa using ht
 rcases hb with ⟨rfl,rfl⟩ | ⟨hs,h1,h2,ver,rfl,h3⟩
 ·refine ⟨_,_,append_new e22 hu (by rw [es]; exact hn) ez hne (by simp at hl ⊢; omega) (by rw [eb]; simp at hl ⊢; omega),?_,by rw [newRow_n]; omega,fun p hp _ => by rw [newRow_get,if_neg (by omega)],h.n,fun q => absurd rfl q,fun _ => Nat.le_refl _,0,by simp,by rw [newRow_get,if_pos rfl,es]; rfl,by omega,by rw [newRow_n]; omega⟩
  rw [newRow_get,if_neg (by omega),hr]
 ·refine ⟨_,_,append_own (pub:=0) (es:=s.map bV) e22 hu (by rw [es]; exact hn) ez (by rw [h3,es]) hne (by simp) (Nat.zero_le _) (by simp; omega) (by rw [eb]; simp; omega),?_,by rw [Heap.n_set]; exact Nat.le_refl _,fun p _ hp => by rw [Heap.get_set,if_neg (fun e => hp hs e.symm)],rb,fun _ => rfl,fun q => absurd q hs,ver + 1,by simp,by rw [Heap.get_set,if_pos rfl,es]; simp,h1,by rw [Heap.n_set]; exact h2⟩
  rw [Heap.get_set,if_neg h1,hr]
def bdNext (h h':Heap) (r rb rb':Nat) (s s':List UInt8):Prop:=Bd h' r rb' s' ∧ h.n ≤ h'.n ∧ (∀ p,p < h.n → p ≠ r → (s ≠ [] → p ≠ rb) → h'.get p = h.get p) ∧ (s ≠ [] → rb' = rb) ∧ (s = [] → s' ≠ [] → h.n ≤ rb')
theorem bdEnd {h h1 h2:Heap} {r rb rb' ver:Nat} {s s':List UInt8} (hs':s' ≠ []) (hrn:r < h.n) (n1:h1.n = h.n) (g1:∀ p,p ≠ r → h1.get p = h.get p) (n2:h1.n ≤ h2.n) (g2:∀ p,p < h1.n → (s ≠ [] → p ≠ rb) → h2.get p = h1.get p) (e1:s ≠ [] → rb' = rb) (e2:s = [] → h1.n ≤ rb') (gr:h2.get rb' = .row ver 5 1 0 none (s'.map bV)) (hr':rb' ≠ r) (hl:rb' < h2.n) :
  bdNext h (h2.set r (bldO (.ptr r 0 0) (.sl rb' ver 0 s'.length none))) r rb rb' s s' :=
 ⟨⟨by rw [Heap.n_set]; omega,_,_,by rw [Heap.get_set,if_pos rfl],.inr rfl,.inr ⟨hs',hr',by rw [Heap.n_set]; exact hl,ver,rfl,by rw [Heap.get_set,if_neg (fun e => hr' e.symm)]; exact gr⟩⟩,by rw [Heap.n_set]; omega,fun p hp hpr hpb => by rw [Heap.get_set,if_neg (fun e => hpr e.symm),g2 p (by omega) hpb,g1 p hpr],e1,fun q _ => by have:=e2 q; omega⟩
theorem cByte {h:Heap} {r rb:Nat} {s:List UInt8} (hb:Bd h r rb s) (hl:s.length ≤ 900000000):∃ h' rb',Cs Tryd.prog EU 57 [.ptr r 0 0,.int .u8 32] h .nili h' ∧ bdNext h h' r rb rb' s (s ++ [32]):=by
 obtain ⟨hrn,a,b,hr,ha,hb⟩:=hb
 obtain ⟨h1,c1,n1,g1,gr1⟩:=cCopyX hr ha
 have hb1:(s = [] ∧ b = .nils) ∨ (s ≠ [] ∧ rb ≠ r ∧ rb < h1.n ∧ ∃ ver,b = .sl rb ver 0 s.length none ∧ h1.get rb = .row ver 5 1 0 none (s.map bV)):=by
  rcases hb with q | ⟨q1,q2,q3,ver,q4,q5⟩
  ·exact .inl q
  exact .inr ⟨q1,q2,by omega,ver,q4,by rw [g1 rb q2]; exact q5⟩
 obtain ⟨v,h2,ap,gr2,n2,g2,rb',e1,e2,ver,rfl,gb,hr',hl'⟩:=bdApp (u:=22) (y:=.gsl 1 [.int .u8 32] (some 1)) (t:=[32]) gr1 (by omega) hb1 (by kernel_rfl) (by kernel_rfl) (by simp) (by simp; omega)
 refine ⟨_,rb',?_,bdEnd (by simp) hrn n1 g1 n2 g2 e1 e2 gb hr' hl'⟩
 refine Cs.body (fn:=Tryd.f57) Tryd.func57 rfl (by kernel_rfl) ?_
 rcases hb with ⟨_,rfl⟩ | ⟨_,_,_,ver0,rfl,_⟩
 ·have lb:load Tryd.prog h1 22 (.ptr r 0 1) = some .nils:=load_get gr1 (by kernel_rfl)
  refine Wc.seq (Wc.wn0 [(0,(.ptr (r) 0 0)),(1,(.int .u8 32)),(4,.nili)] h ?_)
  refine Wc.seq (Wc.enter (Wl.b0 0 1 [(5,(.ptr (r) 0 0))] ?_))
  refine Wl.s 1 [] (@c1) ?_
  refine Wl.dn 2 (Wc.seq (Wc.enter (Wl.b0 0 4 [(7,(.ptr r 0 0)),(10,(.ptr r 0 1))] ?_)))
  refine Wl.l 4 [(11,.nils)] lb ?_
  refine Wl.b0 5 7 [(13,(.gsl 1 [.int .u8 32] (some 1)))] ?_
  let v1:V:=(.sl rb' ver 0 (s ++ [32]).length none)
  refine Wl.opE (b:=base 57 17) 7 (builtin Tryd.prog .append [22,22] h1 [.nils,.gsl 1 [.int .u8 32] (some 1)]) v1 [4,7,14] [(4,.nili),(7,.ptr r 0 0),(14,.sl rb' ver 0 (s ++ [32]).length none)] (by kernel_rfl) (by kernel_rfl) ap (by kernel_rfl) ?_
  refine Wl.bn0 8 10 [(4,.nili),(14,v1),(16,(.ptr r 0 1))] h2 ?_
  refine Wl.storeE (b:=base 57 17) (t:=22) (a:=.ptr r 0 1) (v:=.sl rb' ver 0 (s ++ [32]).length none) (d:=none) 10 [4] [(4,.nili)] (by kernel_rfl) (store_get gr2 (o':=bldO (.ptr r 0 0) v1) (by kernel_rfl)) (by kernel_rfl) ?_
  refine Wl.dn 11 (Wc.seq (Wc.wn0 [(4,.nili)] (Heap.set h2 r (bldO (V.ptr r 0 0) (V.sl rb' ver 0 (List.length (s ++ [32])) none))) ?_))
  refine Wc.ret ?_
  refine retX.mk .nili ⟨rfl,rfl⟩ (by kernel_rfl) ?_
  exact ⟨by kernel_rfl,by kernel_rfl⟩
 have lb:load Tryd.prog h1 22 (.ptr r 0 1) = some (.sl rb ver0 0 s.length none):=load_get gr1 (by kernel_rfl)
 refine Wc.seq (Wc.wn0 [(0,(.ptr (r) 0 0)),(1,(.int .u8 32)),(4,.nili)] h ?_)
 refine Wc.seq (Wc.enter (Wl.b0 0 1 [(5,(.ptr (r) 0 0))] ?_))
 refine Wl.s 1 [] (@c1) ?_
 refine Wl.dn 2 (Wc.seq (Wc.enter (Wl.b0 0 4 [(7,(.ptr r 0 0)),(10,(.ptr r 0 1))] ?_)))
 refine Wl.l 4 [(11,(.sl rb ver0 0 s.length none))] lb ?_
 refine Wl.b0 5 7 [(13,(.gsl 1 [.int .u8 32] (some 1)))] ?_
 let v2:V:=(.sl rb' ver 0 (s ++ [32]).length none)
 refine Wl.opE (b:=base 57 17) 7 (builtin Tryd.prog .append [22,22] h1 [.sl rb ver0 0 s.length none,.gsl 1 [.int .u8 32] (some 1)]) v2 [4,7,14] [(4,.nili),(7,.ptr r 0 0),(14,.sl rb' ver 0 (s ++ [32]).length none)] (by kernel_rfl) (by kernel_rfl) ap (by kernel_rfl) ?_
 refine Wl.bn0 8 10 [(4,.nili),(14,v2),(16,(.ptr r 0 1))] h2 ?_
 refine Wl.storeE (b:=base 57 17) (t:=22) (a:=.ptr r 0 1) (v:=.sl rb' ver 0 (s ++ [32]).length none) (d:=none) 10 [4] [(4,.nili)] (by kernel_rfl) (store_get gr2 (o':=bldO (.ptr r 0 0) v2) (by kernel_rfl)) (by kernel_rfl) ?_
 refine Wl.dn 11 (Wc.seq (Wc.wn0 [(4,.nili)] (Heap.set h2 r (bldO (V.ptr r 0 0) (V.sl rb' ver 0 (List.length (s ++ [32])) none))) ?_))
 refine Wc.ret ?_
 refine retX.mk .nili ⟨rfl,rfl⟩ (by kernel_rfl) ?_
 exact ⟨by kernel_rfl,by kernel_rfl⟩
theorem cText {h:Heap} {r rb:Nat} {s t:List UInt8} (hb:Bd h r rb s) (ht:t ≠ []) (hl:s.length + t.length ≤ 1000000000):∃ h' rb',Cs Tryd.prog EU 50 [.ptr r 0 0,.str t] h (.tup [.int .i64 (t.length:Int),.nili]) h' ∧ bdNext h h' r rb rb' s (s ++ t):=by
 obtain ⟨hrn,a,b,hr,ha,hb⟩:=hb
 obtain ⟨h1,c1,n1,g1,gr1⟩:=cCopyX hr ha
 have hb1:(s = [] ∧ b = .nils) ∨ (s ≠ [] ∧ rb ≠ r ∧ rb < h1.n ∧ ∃ ver,b = .sl rb ver 0 s.length none ∧ h1.get rb = .row ver 5 1 0 none (s.map bV)):=by
  rcases hb with q | ⟨q1,q2,q3,ver,q4,q5⟩
  ·exact .inl q
  exact .inr ⟨q1,q2,by omega,ver,q4,by rw [g1 rb q2]; exact q5⟩
 obtain ⟨v,h2,ap,gr2,n2,g2,rb',e1,e2,ver,rfl,gb,hr',hl'⟩:=bdApp (u:=9) (y:=.str t) (t:=t) gr1 (by omega) hb1 (by kernel_rfl) (by show some (mapB t) = _; rw [mapB_eq]; rfl) ht hl
 refine ⟨_,rb',?_,bdEnd (by simp [ht]) hrn n1 g1 n2 g2 e1 e2 gb hr' hl'⟩
 refine Cs.body (fn:=Tryd.f50) Tryd.func50 rfl (by kernel_rfl) ?_
 rcases hb with ⟨_,rfl⟩ | ⟨_,_,_,ver0,rfl,_⟩
 ·have lb:load Tryd.prog h1 22 (.ptr r 0 1) = some .nils:=load_get gr1 (by kernel_rfl)
  refine Wc.seq (Wc.wn0 [(0,(.ptr (r) 0 0)),(1,(.str t)),(4,(.int .i64 0)),(5,.nili)] h ?_)
  refine Wc.seq (Wc.enter (Wl.b0 0 1 [(6,(.ptr (r) 0 0))] ?_))
  refine Wl.s 1 [] (@c1) ?_
  refine Wl.dn 2 (Wc.seq (Wc.enter (Wl.b0 0 4 [(1,(.str t)),(8,(.ptr r 0 0)),(11,(.ptr r 0 1))] ?_)))
  refine Wl.l 4 [(12,.nils)] lb ?_
  refine Wl.b0 5 6 [(13,(.str t))] ?_
  let v1:V:=(.sl rb' ver 0 (s ++ t).length none)
  refine Wl.opE (b:=base 50 19) 6 (builtin Tryd.prog .append [22,9] h1 [.nils,.str t]) v1 [1,4,5,8,14] [(1,.str t),(4,.int .i64 0),(5,.nili),(8,.ptr r 0 0),(14,.sl rb' ver 0 (s ++ t).length none)] (by kernel_rfl) (by kernel_rfl) ap (by kernel_rfl) ?_
  refine Wl.bn0 7 9 [(1,(.str t)),(4,(.int .i64 0)),(5,.nili),(14,v1),(16,(.ptr r 0 1))] h2 ?_
  refine Wl.storeE (b:=base 50 19) (t:=22) (a:=.ptr r 0 1) (v:=.sl rb' ver 0 (s ++ t).length none) (d:=none) 9 [1,4,5] [(1,.str t),(4,.int .i64 0),(5,.nili)] (by kernel_rfl) (store_get gr2 (o':=bldO (.ptr r 0 0) v1) (by kernel_rfl)) (by kernel_rfl) ?_
  refine Wl.dn 10 (Wc.seq (Wc.wn0 [(1,(.str t)),(4,(.int .i64 ((List.length t:Int)))),(5,.nili)] (Heap.set h2 r (bldO (V.ptr r 0 0) (V.sl rb' ver 0 (List.length (s ++ t)) none))) ?_))
  refine Wc.ret ?_
  refine retX.mk (.tup [(.int .i64 ((List.length t:Int))),.nili]) ⟨rfl,rfl⟩ (by kernel_rfl) ?_
  exact ⟨by kernel_rfl,by kernel_rfl⟩
 have lb:load Tryd.prog h1 22 (.ptr r 0 1) = some (.sl rb ver0 0 s.length none):=load_get gr1 (by kernel_rfl)
 refine Wc.seq (Wc.wn0 [(0,(.ptr (r) 0 0)),(1,(.str t)),(4,(.int .i64 0)),(5,.nili)] h ?_)
 refine Wc.seq (Wc.enter (Wl.b0 0 1 [(6,(.ptr (r) 0 0))] ?_))
 refine Wl.s 1 [] (@c1) ?_
 refine Wl.dn 2 (Wc.seq (Wc.enter (Wl.b0 0 4 [(1,(.str t)),(8,(.ptr r 0 0)),(11,(.ptr r 0 1))] ?_)))
 refine Wl.l 4 [(12,(.sl rb ver0 0 s.length none))] lb ?_
 refine Wl.b0 5 6 [(13,(.str t))] ?_
 let v2:V:=(.sl rb' ver 0 (s ++ t).length none)
 refine Wl.opE (b:=base 50 19) 6 (builtin Tryd.prog .append [22,9] h1 [.sl rb ver0 0 s.length none,.str t]) v2 [1,4,5,8,14] [(1,.str t),(4,.int .i64 0),(5,.nili),(8,.ptr r 0 0),(14,.sl rb' ver 0 (s ++ t).length none)] (by kernel_rfl) (by kernel_rfl) ap (by kernel_rfl) ?_
 refine Wl.bn0 7 9 [(1,(.str t)),(4,(.int .i64 0)),(5,.nili),(14,v2),(16,(.ptr r 0 1))] h2 ?_
 refine Wl.storeE (b:=base 50 19) (t:=22) (a:=.ptr r 0 1) (v:=.sl rb' ver 0 (s ++ t).length none) (d:=none) 9 [1,4,5] [(1,.str t),(4,.int .i64 0),(5,.nili)] (by kernel_rfl) (store_get gr2 (o':=bldO (.ptr r 0 0) v2) (by kernel_rfl)) (by kernel_rfl) ?_
 refine Wl.dn 10 (Wc.seq (Wc.wn0 [(1,(.str t)),(4,(.int .i64 ((List.length t:Int)))),(5,.nili)] (Heap.set h2 r (bldO (V.ptr r 0 0) (V.sl rb' ver 0 (List.length (s ++ t)) none))) ?_))
 refine Wc.ret ?_
 refine retX.mk (.tup [(.int .i64 ((List.length t:Int))),.nili]) ⟨rfl,rfl⟩ (by kernel_rfl) ?_
 exact ⟨by kernel_rfl,by kernel_rfl⟩
theorem cNone {h:Heap} {r rb:Nat} {s:List UInt8} (hb:Bd h r rb s):∃ h',Cs Tryd.prog EU 50 [.ptr r 0 0,.str []] h (.tup [.int .i64 0,.nili]) h' ∧ bdNext h h' r rb rb s s:=by
 obtain ⟨hrn,a,b,hr,ha,hb⟩:=hb
 obtain ⟨h1,c1,n1,g1,gr1⟩:=cCopyX hr ha
 refine ⟨h1.set r (bldO (.ptr r 0 0) b),?_,⟨by rw [Heap.n_set]; omega,_,b,by rw [Heap.get_set,if_pos rfl],.inr rfl,?_⟩,by rw [Heap.n_set]; omega,fun p hp hpr _ => by rw [Heap.get_set,if_neg (fun e => hpr e.symm),g1 p hpr],fun _ => rfl,fun q q' => absurd q q'⟩
 ·refine Cs.body (fn:=Tryd.f50) Tryd.func50 rfl (by kernel_rfl) ?_
  rcases hb with ⟨_,rfl⟩ | ⟨_,_,_,ver0,rfl,_⟩
  ·have lb:load Tryd.prog h1 22 (.ptr r 0 1) = some .nils:=load_get gr1 (by kernel_rfl)
   have ap:=append_zero (P:=Tryd.prog) (h:=h1) (t:=22) (u:=9) (e:=5) (x:=.nils) (by kernel_rfl) (by kernel_rfl) (by kernel_rfl) (.inl rfl)
   refine Wc.seq (Wc.wn0 [(0,(.ptr (r) 0 0)),(1,(.str [])),(4,(.int .i64 0)),(5,.nili)] h ?_)
   refine Wc.seq (Wc.enter (Wl.b0 0 1 [(6,(.ptr (r) 0 0))] ?_))
   refine Wl.s 1 [] (@c1) ?_
   refine Wl.dn 2 (Wc.seq (Wc.enter (Wl.b0 0 4 [(8,(.ptr r 0 0)),(11,(.ptr r 0 1))] ?_)))
   refine Wl.l 4 [(12,.nils)] lb ?_
   refine Wl.b0 5 6 [(13,(.str []))] ?_
   refine Wl.opE (b:=base 50 19) 6 (builtin Tryd.prog .append [22,9] h1 [.nils,.str []]) (.nils) [1,4,5,8,14] [(1,.str []),(4,.int .i64 0),(5,.nili),(8,.ptr r 0 0),(14,.nils)] (by kernel_rfl) (by kernel_rfl) ap (by kernel_rfl) ?_
   refine Wl.bn0 7 9 [(1,(.str [])),(4,(.int .i64 0)),(5,.nili),(14,.nils),(16,(.ptr r 0 1))] h1 ?_
   refine Wl.storeE (b:=base 50 19) (t:=22) (a:=.ptr r 0 1) (v:=.nils) (d:=none) 9 [1,4,5] [(1,.str []),(4,.int .i64 0),(5,.nili)] (by kernel_rfl) (store_get gr1 (o':=bldO (.ptr r 0 0) (.nils)) (by kernel_rfl)) (by kernel_rfl) ?_
   refine Wl.dn 10 (Wc.seq (Wc.wn0 [(1,(.str [])),(4,(.int .i64 0)),(5,.nili)] (Heap.set h1 r (bldO (V.ptr r 0 0) V.nils)) ?_))
   refine Wc.ret ?_
   refine retX.mk (.tup [(.int .i64 0),.nili]) ⟨rfl,rfl⟩ (by kernel_rfl) ?_
   exact ⟨by kernel_rfl,by kernel_rfl⟩
  have lb:load Tryd.prog h1 22 (.ptr r 0 1) = some (.sl rb ver0 0 s.length none):=load_get gr1 (by kernel_rfl)
  have ap:=append_zero (P:=Tryd.prog) (h:=h1) (t:=22) (u:=9) (e:=5) (x:=.sl rb ver0 0 s.length none) (by kernel_rfl) (by kernel_rfl) (by kernel_rfl) (.inr ⟨_,_,_,_,_,rfl⟩)
  refine Wc.seq (Wc.wn0 [(0,(.ptr (r) 0 0)),(1,(.str [])),(4,(.int .i64 0)),(5,.nili)] h ?_)
  refine Wc.seq (Wc.enter (Wl.b0 0 1 [(6,(.ptr (r) 0 0))] ?_))
  refine Wl.s 1 [] (@c1) ?_
  refine Wl.dn 2 (Wc.seq (Wc.enter (Wl.b0 0 4 [(8,(.ptr r 0 0)),(11,(.ptr r 0 1))] ?_)))
  refine Wl.l 4 [(12,(.sl rb ver0 0 s.length none))] lb ?_
  refine Wl.b0 5 6 [(13,(.str []))] ?_
  refine Wl.opE (b:=base 50 19) 6 (builtin Tryd.prog .append [22,9] h1 [.sl rb ver0 0 s.length none,.str []]) (.sl rb ver0 0 s.length none) [1,4,5,8,14] [(1,.str []),(4,.int .i64 0),(5,.nili),(8,.ptr r 0 0),(14,.sl rb ver0 0 s.length none)] (by kernel_rfl) (by kernel_rfl) ap (by kernel_rfl) ?_
  refine Wl.bn0 7 9 [(1,(.str [])),(4,(.int .i64 0)),(5,.nili),(14,(.sl rb ver0 0 s.length none)),(16,(.ptr r 0 1))] h1 ?_
  refine Wl.storeE (b:=base 50 19) (t:=22) (a:=.ptr r 0 1) (v:=.sl rb ver0 0 s.length none) (d:=none) 9 [1,4,5] [(1,.str []),(4,.int .i64 0),(5,.nili)] (by kernel_rfl) (store_get gr1 (o':=bldO (.ptr r 0 0) (.sl rb ver0 0 s.length none)) (by kernel_rfl)) (by kernel_rfl) ?_
  refine Wl.dn 10 (Wc.seq (Wc.wn0 [(1,(.str [])),(4,(.int .i64 0)),(5,.nili)] (Heap.set h1 r (bldO (V.ptr r 0 0) (V.sl rb ver0 0 (List.length s) none))) ?_))
  refine Wc.ret ?_
  refine retX.mk (.tup [(.int .i64 0),.nili]) ⟨rfl,rfl⟩ (by kernel_rfl) ?_
  exact ⟨by kernel_rfl,by kernel_rfl⟩
 rcases hb with q | ⟨q1,q2,q3,ver,q4,q5⟩
 ·exact .inl q
 exact .inr ⟨q1,q2,by rw [Heap.n_set]; omega,ver,q4,by rw [Heap.get_set,if_neg (fun e => q2 e.symm),g1 rb q2]; exact q5⟩
end Go.AM
namespace Go.AM
open Go.Proofs
set_option maxRecDepth 100000
set_option maxHeartbeats 4000000
def leafT (x:Dc):List UInt8:=if x.kind = 2 then [32] else x.text
theorem leafT_len (x:Dc):(leafT x).length ≤ szD x:=by
 have:=szD_text x
 unfold leafT
 split
 ·have:=szD_pos x; simp; omega
 ·omega
def flatY (tm:AM.T V):Yr (List UInt8 × Nat) where
 own a p:=p = 6 ∨ p = 1 ∨ p = 2 ∨ bdOwn 3 a.2 a.1 p
 G a h:=6 < h.n ∧ h.get 6 = .loop .ready none 35 20 tm [8] (rAs Tryd.prog 35 0) (rBd Tryd.prog 35 0) 5 ∧ h.get 1 = .row 0 9 1 0 (some 1) [.str []] ∧ h.get 2 = .row 0 4 1 0 (some 1) [.bool false] ∧ Bd h 3 a.2 a.1
 St a h:=6 < h.n ∧ h.get 6 = .loop .done (some .ret) 35 20 tm [8] (rAs Tryd.prog 35 0) (rBd Tryd.prog 35 0) 5 ∧ h.get 1 = .row 0 9 1 0 (some 1) [.str []] ∧ h.get 2 = .row 0 4 1 0 (some 1) [.bool false]
 T a x b a':=b = decide (x.kind ≠ 4) ∧ (b = true → a'.1 = a.1 ++ leafT x)
 wt a:=a.1.length
 low:=by
  rintro ⟨s,rb⟩ h r ⟨h1,_,_,_,hb⟩ ho
  rcases ho with e | e | e | e | ⟨e1,e2⟩
  ·omega
  ·omega
  ·omega
  ·omega
  ·obtain ⟨_,a,b,_,_,q | ⟨_,_,q,_⟩⟩:=hb
   ·exact absurd q.1 e1
   ·simp only at e2 q; omega
 stay:=by
  rintro ⟨s,rb⟩ h h' ⟨h1,h2,h3,h4,hb⟩ hn hr
  refine ⟨by omega,by rw [hr 6 (.inl rfl)]; exact h2,by rw [hr 1 (.inr (.inl rfl))]; exact h3,by rw [hr 2 (.inr (.inr (.inl rfl)))]; exact h4,?_⟩
  obtain ⟨b1,a,b,b2,b3,b4⟩:=hb
  refine ⟨by omega,a,b,by rw [hr 3 (.inr (.inr (.inr (.inl rfl))))]; exact b2,b3,?_⟩
  rcases b4 with q | ⟨q1,q2,q3,ver,q4,q5⟩
  ·exact .inl q
  ·exact .inr ⟨q1,q2,by omega,ver,q4,by rw [hr rb (.inr (.inr (.inr (.inr ⟨q1,rfl⟩))))]; exact q5⟩
 stop:=by
  rintro ⟨s,rb⟩ h h' ⟨h1,h2,h3,h4⟩ hn hr
  exact ⟨by omega,by rw [hr 6 (.inl rfl)]; exact h2,by rw [hr 1 (.inr (.inl rfl))]; exact h3,by rw [hr 2 (.inr (.inr (.inl rfl)))]; exact h4⟩
theorem flatOk {tm:AM.T V} {v0 v7:V} (hT:TSat 20 [(0,v0),(1,.ptr 0 0 0),(2,.ptr 1 0 0),(3,.ptr 2 0 0),(4,.ptr 3 0 0),(7,v7)] tm):(flatY tm).Ok 6 900000000:=by
 rintro ⟨s,rb⟩ h x ⟨w1,hl,hg1,hg2,hb⟩ hx hB
 have hB:s.length + szD x ≤ 900000000:=hB
 have htl:=szD_text x
 refine Ev.yield (L0:=[(0,v0),(1,.ptr 0 0 0),(2,.ptr 1 0 0),(3,.ptr 2 0 0),(4,.ptr 3 0 0),(7,v7)]) [2,3,4,8] [(2,.ptr 1 0 0),(3,.ptr 2 0 0),(4,.ptr 3 0 0),(8,encD x)] hl hT (by kernel_rfl) ?_
 refine Wc.enter (Wl.bn0 0 1 [(2,(.ptr 1 0 0)),(3,(.ptr 2 0 0)),(4,(.ptr 3 0 0)),(5,(.ptr h.n 0 0)),(8,(encD x))] (newRow h 26 4 0 (some 1) [V.agg [V.int .i64 0,V.str [],V.int .i64 0,V.nils]]) ?_)
 obtain ⟨h3,hst,n3,g3,g3u⟩:=fresh_var (P:=Tryd.prog) (h:=h) (t:=26) (ty:=26) (sz:=4) (c:=some 1) (z:=.agg [V.int IntKind.i64 0,V.str [],V.int IntKind.i64 0,V.nils]) (v:=encD x) (by kernel_rfl)
 obtain ⟨u,hu⟩:∃ u,u = h.n:=⟨_,rfl⟩
 rw [← hu] at hst g3u ⊢
 refine Wl.storeE (b:=roundB 35 20 6) (t:=26) (a:=.ptr u 0 0) (v:=encD x) (d:=none) 1 [2,3,4,5] [(2,.ptr 1 0 0),(3,.ptr 2 0 0),(4,.ptr 3 0 0),(5,.ptr u 0 0)] (by kernel_rfl) hst (by kernel_rfl) ?_
 refine Wl.dn 2 ?_
 refine yBody.mk none (by rw [g3 6 w1]; exact hl) ?_
 obtain ⟨h4,hh4⟩:∃ h4,h4 = h3.set 6 (.loop .busy none 35 20 tm [8] (rAs Tryd.prog 35 0) (rBd Tryd.prog 35 0) 5):=⟨_,rfl⟩
 rw [← hh4]
 have n4:h4.n = h.n + 1:=by rw [hh4,Heap.n_set,n3]
 have g4:∀ p,p ≠ 6 → p < h.n → h4.get p = h.get p:=fun p hp hp2 => by rw [hh4,Heap.get_set,if_neg (fun e => hp e.symm),g3 p hp2]
 have g4l:h4.get 6 = .loop .busy none 35 20 tm [8] (rAs Tryd.prog 35 0) (rBd Tryd.prog 35 0) 5:=by rw [hh4,Heap.get_set,if_pos rfl]
 have g4u:h4.get u = .row 0 26 4 0 (some 1) [encD x]:=by rw [hh4,Heap.get_set,if_neg (by omega),g3u]
 have hb3:=hb
 have hrb:s ≠ [] → rb ≠ 6 ∧ rb ≠ 1 ∧ rb ≠ 2 ∧ rb < h.n:=fun q => by
  obtain ⟨_,a,b,_,_,p | ⟨_,_,p3,ver,_,p5⟩⟩:=hb
  ·exact absurd p.1 q
  exact ⟨fun e => (by rw [e,hl] at p5; cases p5),fun e => (by rw [e,hg1] at p5; cases p5),fun e => (by rw [e,hg2] at p5; cases p5),p3⟩
 have hb4:Bd h4 3 rb s:=by
  obtain ⟨b1,a,b,b2,b3,b4⟩:=hb
  refine ⟨by omega,a,b,by rw [g4 3 (by omega) b1]; exact b2,b3,?_⟩
  rcases b4 with q | ⟨q1,q2,q3,ver,q4,q5⟩
  ·exact .inl q
  exact .inr ⟨q1,q2,by omega,ver,q4,by rw [g4 rb (hrb q1).1 q3]; exact q5⟩
 have lk:load Tryd.prog h4 3 (.ptr u 0 0) = some (.int .i64 x.kind):=load_get g4u (by kernel_rfl)
 have lt:load Tryd.prog h4 9 (.ptr u 0 1) = some (.str x.text):=load_get g4u (by kernel_rfl)
 obtain ⟨h5,rb5,c5,x5⟩:=cByte hb4 (by omega)
 obtain ⟨h6,rb6,c6,x6⟩:∃ h' rb',Cs Tryd.prog EU 50 [.ptr 3 0 0,.str x.text] h4 (.tup [.int .i64 (x.text.length:Int),.nili]) h' ∧ bdNext h4 h' 3 rb rb' s (s ++ x.text):=by
  by_cases ht:x.text = []
  ·obtain ⟨h',p,q⟩:=cNone hb4
   exact ⟨h',rb,by rw [ht]; exact p,by rw [ht,List.append_nil]; exact q⟩
  exact cText hb4 ht (by omega)
 have fin:∀ (h7:Heap) (rb':Nat) (s':List UInt8),bdNext h4 h7 3 rb rb' s s' → s' = s ++ leafT x → x.kind ≠ 4 → h7.get 6 = .loop .busy none 35 20 tm [8] (rAs Tryd.prog 35 0) (rBd Tryd.prog 35 0) 5 ∧ (∃ a',(flatY tm).T (s,rb) x true a' ∧ Kp ((flatY tm).own (s,rb)) ((flatY tm).own a') h (h7.set 6 (.loop .ready none 35 20 tm [8] (rAs Tryd.prog 35 0) (rBd Tryd.prog 35 0) 5)) ∧ (flatY tm).G a' (h7.set 6 (.loop .ready none 35 20 tm [8] (rAs Tryd.prog 35 0) (rBd Tryd.prog 35 0) 5)) ∧ (flatY tm).wt a' ≤ (flatY tm).wt (s,rb) + szD x):=by
  intro h7 rb' s' ⟨z1,z2,z3,z4,z5⟩ hs' hk4
  have zk:∀ p,p < h4.n → p ≠ 3 → p = 6 ∨ p = 1 ∨ p = 2 → h7.get p = h4.get p:=fun p hp h3 hq => z3 p hp h3 fun q e => by
   obtain ⟨r1,r2,r3,_⟩:=hrb q
   rcases hq with e' | e' | e' <;> omega
  have g7l:=(zk 6 (by omega) (by omega) (.inl rfl)).trans g4l
  have hrb':s' ≠ [] → rb' ≠ 6 ∧ rb' ≠ 1 ∧ rb' ≠ 2:=fun q => by
   by_cases hs:s = []
   ·have e:=z5 hs q
    omega
   have e:=z4 hs
   obtain ⟨r1,r2,r3,_⟩:=hrb hs
   omega
  refine ⟨g7l,(s',rb'),⟨by simp [hk4],fun _ => hs'⟩,⟨by rw [Heap.n_set]; omega,fun p hp ho => ?_,fun p ho => ?_⟩,⟨by rw [Heap.n_set]; omega,by rw [Heap.get_set,if_pos rfl],?_,?_,?_⟩,?_⟩
  ·have o1:p ≠ 6:=fun e => ho (.inl e)
   have o2:p ≠ 3:=fun e => ho (.inr (.inr (.inr (.inl e))))
   have o3:s ≠ [] → p ≠ rb:=fun q e => ho (.inr (.inr (.inr (.inr ⟨q,e⟩))))
   rw [Heap.get_set,if_neg (fun e => o1 e.symm),z3 p (by omega) o2 o3,g4 p o1 hp]
  ·rcases ho with e | e | e | e | ⟨e1,e2⟩
   ·exact .inl (.inl e)
   ·exact .inl (.inr (.inl e))
   ·exact .inl (.inr (.inr (.inl e)))
   ·exact .inl (.inr (.inr (.inr (.inl e))))
   by_cases hs:s = []
   ·have e:=z5 hs e1
    simp only at e2; exact .inr (by omega)
   exact .inl (.inr (.inr (.inr (.inr ⟨hs,by rw [e2]; exact z4 hs⟩))))
  ·rw [Heap.get_set,if_neg (by omega),zk 1 (by omega) (by omega) (.inr (.inl rfl)),g4 1 (by omega) (by omega)]; exact hg1
  ·rw [Heap.get_set,if_neg (by omega),zk 2 (by omega) (by omega) (.inr (.inr rfl)),g4 2 (by omega) (by omega)]; exact hg2
  ·obtain ⟨b1,a,b,b2,b3,b4⟩:=z1
   refine ⟨by rw [Heap.n_set]; exact b1,a,b,by rw [Heap.get_set,if_neg (by omega)]; exact b2,b3,?_⟩
   rcases b4 with q | ⟨q1,q2,q3,ver,q4,q5⟩
   ·exact .inl q
   exact .inr ⟨q1,q2,by rw [Heap.n_set]; exact q3,ver,q4,by rw [Heap.get_set,if_neg (fun e => (hrb' q1).1 e.symm)]; exact q5⟩
  show s'.length ≤ s.length + szD x
  have:=leafT_len x
  rw [hs',List.length_append]; omega
 refine Wc.block (Wc.seq (Wc.enter (Wl.bn0 0 1 [(2,(.ptr 1 0 0)),(3,(.ptr 2 0 0)),(4,(.ptr 3 0 0)),(5,(.ptr (u) 0 0)),(9,(.ptr (u) 0 0))] h4 ?_)))
 refine Wl.l 1 [(10,(.int .i64 (x.kind)))] (@lk) ?_
 refine Wl.dn 2 (Wc.block (Wc.seq (Wc.w0 [(14,(.bool (decide (x.kind = 4))))] ?_)))
 refine Wc.cq (p:=x.kind = 4) (fun c1 => ?_) (fun c1 => ?_)
 ·refine Wc.seq (Wc.enter ?_)
  have st1:store Tryd.prog h4 9 (.ptr 1 0 0) (.str []) = some (h4.set 1 (.row 0 9 1 0 (some 1) [.str []])):=store_get (o:=.row 0 9 1 0 (some 1) [.str []]) (by rw [g4 1 (by omega) (by omega)]; exact hg1) (by kernel_rfl)
  obtain ⟨h7,hh7⟩:∃ h7,h7 = h4.set 1 (.row 0 9 1 0 (some 1) [.str []]):=⟨_,rfl⟩
  rw [← hh7] at st1
  have g7:∀ p,h7.get p = h4.get p:=fun p => by
   rw [hh7,Heap.get_set]
   split
   ·rename_i e; rw [← e,g4 1 (by omega) (by omega),hg1]
   rfl
  have st2:store Tryd.prog h7 4 (.ptr 2 0 0) (.bool false) = some (h7.set 2 (.row 0 4 1 0 (some 1) [.bool false])):=store_get (o:=.row 0 4 1 0 (some 1) [.bool false]) (by rw [g7,g4 2 (by omega) (by omega)]; exact hg2) (by kernel_rfl)
  obtain ⟨h8,hh8⟩:∃ h8,h8 = h7.set 2 (.row 0 4 1 0 (some 1) [.bool false]):=⟨_,rfl⟩
  rw [← hh8] at st2
  have g8:∀ p,h8.get p = h4.get p:=fun p => by
   rw [hh8,Heap.get_set]
   split
   ·rename_i e; rw [← e,g4 2 (by omega) (by omega),hg2]
   exact g7 p
  have n8:h8.n = h4.n:=by rw [hh8,Heap.n_set,hh7,Heap.n_set]
  refine Wl.storeE (b:=roundB 35 20 6) (t:=9) (a:=.ptr 1 0 0) (v:=.str []) (d:=none) 0 [2,3] [(2,.ptr 1 0 0),(3,.ptr 2 0 0)] (by kernel_rfl) st1 (by kernel_rfl) ?_
  refine Wl.storeE (b:=roundB 35 20 6) (t:=4) (a:=.ptr 2 0 0) (v:=.bool false) (d:=none) 1 [2,3] [(2,.ptr 1 0 0),(3,.ptr 2 0 0)] (by kernel_rfl) st2 (by kernel_rfl) ?_
  refine Wl.dn 2 (Wc.ret (blockX.ret ?_))
  refine blockX.ret ?_
  refine yOut.ret none (by rw [g8]; exact g4l) ⟨(s,rb),⟨by simp [c1],fun q => by simp at q⟩,⟨by rw [Heap.n_set]; omega,fun p hp ho => ?_,fun p ho => .inl ho⟩,⟨by rw [Heap.n_set]; omega,by rw [Heap.get_set,if_pos rfl],?_,?_⟩,?_⟩
  ·have o1:p ≠ 6:=fun e => ho (.inl e)
   rw [Heap.get_set,if_neg (fun e => o1 e.symm),g8,g4 p o1 hp]
  ·rw [Heap.get_set,if_neg (by omega),g8,g4 1 (by omega) (by omega)]; exact hg1
  ·rw [Heap.get_set,if_neg (by omega),g8,g4 2 (by omega) (by omega)]; exact hg2
  show s.length ≤ s.length + szD x; omega
 refine Wc.seq (Wc.w0 [(16,(.bool (decide (x.kind = 2))))] ?_)
 refine Wc.cq (p:=x.kind = 2) (fun c2 => ?_) (fun c2 => ?_)
 ·refine Wc.enter (Wl.s 0 [] (@c5) ?_)
  refine Wl.dn 1 ?_
  obtain ⟨p1,a',p2,p3,p4,p5⟩:=fin h5 rb5 _ x5 (by unfold leafT; rw [if_pos c2]) c1
  exact yEnd.mk none p1 ⟨a',p2,p3,p4,p5⟩
 refine Wc.enter (Wl.b0 0 1 [(11,(.ptr (u) 0 1))] ?_)
 refine Wl.l 1 [(12,(.str (x.text)))] (@lt) ?_
 refine Wl.s 2 [] (@c6) ?_
 refine Wl.dn 3 ?_
 obtain ⟨p1,a',p2,p3,p4,p5⟩:=fin h6 rb6 _ x6 (by unfold leafT; rw [if_neg c2]) c1
 exact yEnd.mk none p1 ⟨a',p2,p3,p4,p5⟩
theorem bytes_back (s:List UInt8):mapO byteOf' (s.map bV) = some s:=by
 induction s with
 | nil => rfl
 | cons c s IH =>
  have e:byteOf' (bV c) = some c:=by
   change (bif Nat.blt c.toNat 256 then some (UInt8.ofNat c.toNat) else none) = some c
   rw [show Nat.blt c.toNat 256 = true from by rw [Nat.blt_eq]; exact c.toNat_lt]
   simp
  rw [List.map_cons]
  unfold mapO at IH ⊢
  simp only [e,IH]
theorem cStr0 {h:Heap} {r:Nat} (lb:load Tryd.prog h 22 (.ptr r 0 1) = some .nils):Cs Tryd.prog EU 37 [.ptr r 0 0] h (.str []) h:=by
 refine Cs.body (fn:=Tryd.f37) Tryd.func37 rfl (by kernel_rfl) ?_
 refine Wc.seq (Wc.wn0 [(0,(.ptr (r) 0 0)),(2,(.str []))] h ?_)
 refine Wc.seq (Wc.drawn0 (by kernel_rfl) ?_)
 refine Dl.bn0 0 3 [(5,(.ptr (r) 0 1))] (h) ?_
 refine Dl.l 3 [(6,.nils)] (@lb) ?_
 refine Dl.b0 4 8 [(7,.nilp),(10,(.ptr (r) 0 1))] ?_
 refine Dl.l 8 [(11,.nils)] (@lb) ?_
 refine Dl.b0 9 12 [] ?_
 refine Dl.done 12 rfl ?_
 refine Wc.ret ?_
 refine retX.mk (.str []) ⟨rfl,rfl⟩ (by kernel_rfl) ?_
 exact ⟨by kernel_rfl,by kernel_rfl⟩
theorem cStrS {h:Heap} {r rb ver:Nat} {s:List UInt8} (lb:load Tryd.prog h 22 (.ptr r 0 1) = some (.sl rb ver 0 s.length none)) (hs:s ≠ []) (q5:h.get rb = .row ver 5 1 0 none (s.map bV)) (hl:s.length ≤ 1000000000):Cs Tryd.prog EU 37 [.ptr r 0 0] h (.str s) (h.set rb (.row ver 5 1 (Nat.max 0 s.length) none (s.map bV))):=by
 have hp:0 < s.length:=List.length_pos_iff.2 hs
 refine Cs.body (fn:=Tryd.f37) Tryd.func37 rfl (by kernel_rfl) ?_
 refine Wc.seq (Wc.wn0 [(0,(.ptr (r) 0 0)),(2,(.str []))] h ?_)
 refine Wc.seq ?_
 have hd:builtin Tryd.prog .unsafeSliceData [22] h [.sl rb ver 0 s.length none] = .val (.ptr rb ver 0) h:=by
  change bData h (.sl rb ver 0 s.length none) = _
  unfold bData
  simp only
  rw [q5]
  have e:(Nat.beq ver ver && Nat.blt 0 s.length && noCap none) = true:=by
   rw [Nat.beq_refl,show Nat.blt 0 s.length = true from by rw [Nat.blt_eq]; exact hp]; rfl
  simp only [e,cond_true]
 have ht:builtin Tryd.prog .unsafeString [99,3] h [.ptr rb ver 0,.int .i64 (s.length:Int)] = .val (.str s) (h.set rb (.row ver 5 1 (Nat.max 0 s.length) none (s.map bV))) :=
  text_of (P:=Tryd.prog) (t:=99) (s:=s) (es:=s.map bV) q5 (by kernel_rfl) hp (by simp) (by unfold room; omega) (bytes_back s)
 refine Wc.drawn0 (by kernel_rfl) ?_
 refine Dl.b0 0 3 [(0,(.ptr r 0 0)),(5,(.ptr r 0 1))] ?_
 refine Dl.l 3 [(6,(.sl rb ver 0 s.length none))] lb ?_
 refine Dl.opE (b:=base 37 14) (h2:=h) 4 (builtin Tryd.prog .unsafeSliceData [22] h [.sl rb ver 0 s.length none]) (.ptr rb ver 0) [0,2,7] [(0,.ptr r 0 0),(2,.str []),(7,.ptr rb ver 0)] (by kernel_rfl) (by kernel_rfl) hd (by kernel_rfl) (by kernel_rfl) ?_
 refine Dl.bn0 5 8 [(0,(.ptr r 0 0)),(2,(.str [])),(7,(.ptr rb ver 0)),(10,(.ptr r 0 1))] h ?_
 refine Dl.l 8 [(11,(.sl rb ver 0 s.length none))] lb ?_
 refine Dl.b0 9 10 [(12,(.int .i64 (s.length:Int)))] ?_
 refine Dl.opE (b:=base 37 14) (h2:=h.set rb (.row ver 5 1 (Nat.max 0 s.length) none (s.map bV))) 10 (builtin Tryd.prog .unsafeString [99,3] h [.ptr rb ver 0,.int .i64 (s.length:Int)]) (.str s) [0,2,13] [(0,.ptr r 0 0),(2,.str []),(13,.str s)] (by kernel_rfl) (by kernel_rfl) ht (by kernel_rfl) (by kernel_rfl) ?_
 refine Dl.bn0 11 12 [(0,(.ptr r 0 0)),(2,(.str s))] (h.set rb (.row ver 5 1 (Nat.max 0 s.length) none (s.map bV))) ?_
 refine Dl.done 12 rfl ?_
 refine Wc.ret ?_
 refine retX.mk (.str s) ⟨rfl,rfl⟩ (by kernel_rfl) ?_
 exact ⟨by kernel_rfl,by kernel_rfl⟩
theorem cString {h:Heap} {r rb:Nat} {s:List UInt8} (hb:Bd h r rb s) (hl:s.length ≤ 1000000000):∃ h',Cs Tryd.prog EU 37 [.ptr r 0 0] h (.str s) h' ∧ h'.n = h.n ∧ (∀ p,(s ≠ [] → p ≠ rb) → h'.get p = h.get p):=by
 obtain ⟨hrn,a,b,hr,ha,hb⟩:=hb
 rcases hb with ⟨rfl,rfl⟩ | ⟨hs,q2,q3,ver,rfl,q5⟩
 ·exact ⟨h,cStr0 (load_get hr (by kernel_rfl)),rfl,fun _ _ => rfl⟩
 ·exact ⟨_,cStrS (load_get hr (by kernel_rfl)) hs q5 hl,Heap.n_set _ _ _,fun p hp => by rw [Heap.get_set,if_neg (fun e => hp hs e.symm)]⟩
theorem runFlat {tm:AM.T V} {a a':List UInt8 × Nat} {l:List Dc} {b:Bool} (h:RunY (flatY tm).T a l b a'):b = !(l.any fun x => decide (x.kind = 4)) ∧ (b = true → a'.1 = a.1 ++ (l.map leafT).flatten):=by
 induction h with
 | nil a => simp
 | cons h t IH =>
  obtain ⟨h1,h2⟩:=h
  obtain ⟨i1,i2⟩:=IH
  have h1:decide (_ ≠ _) = true:=h1.symm
  simp only [ne_eq,decide_eq_true_eq] at h1
  refine ⟨by rw [i1]; simp [h1],fun hb => ?_⟩
  rw [i2 hb,h2 rfl]; simp
 | stop h =>
  obtain ⟨h1,h2⟩:=h
  have h1:decide (_ ≠ _) = false:=h1.symm
  simp only [ne_eq,decide_eq_false_iff_not,Decidable.not_not] at h1
  exact ⟨by simp [h1],fun hb => by cases hb⟩
theorem leaf_hard:∀ (n:Nat) (d:Dc),szD d ≤ n → ((leavesD d).any fun x => decide (x.kind = 4)) = hardD d:=by
 intro n
 induction n with
 | zero => intro d h; have:=szD_pos d; omega
 | succ n IH =>
  intro d h
  rw [leavesD_eq,hardD_eq]
  by_cases h5:d.kind < 5
  ·rw [if_pos h5]
   have e:decide (5 ≤ d.kind) = false:=decide_eq_false (by omega)
   rw [e]; simp
  ·rw [if_neg h5]
   have e:decide (5 ≤ d.kind) = true:=decide_eq_true (by omega)
   have e4:decide (d.kind = 4) = false:=decide_eq_false (by omega)
   rw [e,e4]
   simp only [Bool.false_or,Bool.true_and]
   have key:∀ l:List Dc,(∀ k,k ∈ l → szD k ≤ n) → ((l.map leavesD).flatten.any fun x => decide (x.kind = 4)) = l.any hardD:=by
    intro l
    induction l with
    | nil => intro _; rfl
    | cons k l IH2 =>
     intro hk
     rw [List.map_cons,List.flatten_cons,List.any_append,IH k (hk k (by simp)),IH2 fun q hq => hk q (by simp [hq]),List.any_cons]
   refine key _ fun k hk => ?_
   obtain ⟨i,hi,e⟩:=List.getElem_of_mem hk
   have:=szD_kid d hi
   rw [List.getD_eq_getElem?_getD,List.getElem?_eq_getElem hi,Option.getD_some,e] at this
   omega
theorem leaf_flat:∀ (n:Nat) (d:Dc),szD d ≤ n → rightD d → ((leavesD d).map leafT).flatten = flatD d:=by
 intro n
 induction n with
 | zero => intro d h; have:=szD_pos d; omega
 | succ n IH =>
  intro d h hr
  rw [leavesD_eq,flatD_eq]
  by_cases h5:d.kind < 5
  ·rw [if_pos h5,if_neg (show ¬ 5 ≤ d.kind by omega)]
   have hr':=hr
   rw [rightD] at hr'
   have ht:d.kind ≠ 1 → d.text = []:=fun q => by
    have:=hr'.2.2.1
    by_cases e:d.text = []
    ·exact e
    ·exact absurd (this.1 e) q
   simp only [List.map_cons,List.map_nil,List.flatten_cons,List.flatten_nil,List.append_nil]
   unfold leafT
   by_cases h2:d.kind = 2
   ·rw [if_pos h2,if_neg (by omega),if_pos h2]
   ·rw [if_neg h2]
    by_cases h1:d.kind = 1
    ·rw [if_pos h1]
    ·rw [if_neg h1,if_neg h2,ht h1]
  ·rw [if_neg h5,if_neg (by omega),if_neg (by omega),if_pos (by omega),List.nil_append]
   have key:∀ l:List Dc,(∀ k,k ∈ l → szD k ≤ n ∧ rightD k) → (((l.map leavesD).flatten).map leafT).flatten = (l.map fun k => flatD k).flatten:=by
    intro l
    induction l with
    | nil => intro _; rfl
    | cons k l IH2 =>
     intro hk
     rw [List.map_cons,List.flatten_cons,List.map_append,List.flatten_append,IH k (hk k (by simp)).1 (hk k (by simp)).2,IH2 fun q hq => hk q (by simp [hq]),List.map_cons,List.flatten_cons]
   refine key _ fun k hk => ⟨?_,right_kids hr hk⟩
   obtain ⟨i,hi,e⟩:=List.getElem_of_mem hk
   have:=szD_kid d hi
   rw [List.getD_eq_getElem?_getD,List.getElem?_eq_getElem hi,Option.getD_some,e] at this
   omega
theorem cDocFlat {d:Dc} (hd:rightD d) (hs:szD d ≤ 100000):Cp Tryd.prog EU 35 [encD d] (.tup [.str (if hardD d then [] else flatD d),.bool (!hardD d)]):=by
 refine Cp.body (fn:=Tryd.f35) Tryd.func35 rfl (by kernel_rfl) ?_
 refine Wc.seq (Wc.wn0 [(0,(.agg [(.int .i64 (d.kind)),(.str (d.text)),(.int .i64 (d.n)),(.osl 4 (esD d))])),(1,(.ptr 0 0 0)),(2,(.ptr 1 0 0)),(3,(.ptr 2 0 0))] (hp [.row 0 26 4 0 (some 1) [(.agg [(.int .i64 (d.kind)),(.str (d.text)),(.int .i64 (d.n)),(.osl 4 (esD d))])],.row 0 9 1 0 (some 1) [(.str [])],.row 0 4 1 0 (some 1) [(.bool false)]]) ?_)
 refine Wc.seq (Wc.wn0 [(4,(.ptr 3 0 0))] (hp [.row 0 26 4 0 (some 1) [(.agg [(.int .i64 (d.kind)),(.str (d.text)),(.int .i64 (d.n)),(.osl 4 (esD d))])],.row 0 9 1 0 (some 1) [(.str [])],.row 0 4 1 0 (some 1) [(.bool false)],.row 0 49 2 0 (some 1) [(.agg [.nilp,.nils])]]) ?_)
 refine Wc.seq (Wc.seq (Wc.enter (Wl.b0 0 1 [(6,(.agg [(.int .i64 (d.kind)),(.str (d.text)),(.int .i64 (d.n)),(.osl 4 (esD d))]))] ?_)))
 refine Wl.s 1 [(7,(.func (.func 69) [] [(.ptr 4 0 0)]))] (@Go.AM.cLeaves (hp [Obj.row 0 26 4 0 (some 1) [V.agg [V.int .i64 d.kind,V.str d.text,V.int .i64 d.n,V.osl 4 (esD d)]],Obj.row 0 9 1 0 (some 1) [V.str []],Obj.row 0 4 1 0 (some 1) [V.bool false],Obj.row 0 49 2 0 (some 1) [V.agg [V.nilp,V.nils]]]) (d)) ?_
 refine Wl.dn 2 (Wc.block ?_)
 refine Wc.rangeAs (f:=.tmp 7) (params:=#[8]) (b:=base 35 20) (q:=69) (args:=[(.func (.yield 6) [] []),.ptr 4 0 0]) (rAs Tryd.prog 35 0) (rBd Tryd.prog 35 0) (by kernel_rfl) rfl rfl (by kernel_rfl) (fun tm hT => ?_)
 obtain ⟨h6,hh6⟩:∃ h6,h6 = hp [.row 0 26 4 0 (some 1) [encD d],.row 0 9 1 0 (some 1) [(.str [])],.row 0 4 1 0 (some 1) [(.bool false)],.row 0 49 2 0 (some 1) [(.agg [.nilp,.nils])],.row 0 26 4 0 (some 1) [(encD d)],.defs,.loop .ready none 35 20 tm [8] (rAs Tryd.prog 35 0) (rBd Tryd.prog 35 0) 5]:=⟨_,rfl⟩
 have n6:h6.n = 7:=by subst hh6; kernel_rfl
 have hG:(flatY tm).G ([],0) h6:=by
  have k1:6 < h6.n:=by omega
  have k2:3 < h6.n:=by omega
  subst hh6
  exact ⟨k1,by kernel_rfl,by kernel_rfl,by kernel_rfl,⟨k2,.nilp,.nils,by kernel_rfl,.inl rfl,.inl ⟨rfl,rfl⟩⟩⟩
 have hcx:=cLeaf (B:=900000000) (by omega) (szD d) (Nat.le_refl _) (l:=6) (flatY tm) (flatOk (v0:=encD d) (v7:=.func (.func 69) [] [.ptr 4 0 0]) hT.keep) (a:=([],0)) (h:=h6) (r:=4) hG (by subst hh6; kernel_rfl) (fun e => by
  rcases e with e | e | e | e | ⟨e,_⟩
  ·omega
  ·omega
  ·omega
  ·omega
  exact e rfl) (by omega) (by show 0 + szD d ≤ _; omega)
 refine Cx.monoE (h':=h6) (by subst hh6; kernel_rfl) hcx ?_
 rintro v h7 ⟨rfl,b,⟨s,rb⟩,r1,r2,r3,r4⟩
 change rEnd Tryd.prog EU 6 35 20 [8] _ _ 5 ({ base 35 20 with marks:=[5] }.on _) _ _ _ _ h7
 obtain ⟨t1,t2⟩:=runFlat r1
 rw [leaf_hard _ d (Nat.le_refl _)] at t1
 have d7:h7.get 5 = .defs:=by
  rw [r2.2.1 5 (by omega) (fun e => ?_)]
  ·subst hh6; kernel_rfl
  rcases e with e | e | e | e | ⟨e,_⟩
  ·omega
  ·omega
  ·omega
  ·omega
  exact e rfl
 have hlow:∀ o p,p < 6 → (h7.set 6 o).get p = h7.get p:=fun o p hp => by rw [Heap.get_set,if_neg (by omega)]
 cases b with
 | true =>
  obtain ⟨z1,z2,z3,z4,z5⟩:=r3
  have hh:hardD d = false:=by
   cases e:hardD d with
   | false => rfl
   | true => rw [e] at t1; cases t1
  have hs2:s = flatD d:=by
   have:=t2 rfl
   rw [leaf_flat _ d (Nat.le_refl _) hd] at this
   simpa using this
  have z5:Bd h7 3 rb s:=z5
  have hrb:s ≠ [] → rb ≠ 6 ∧ rb ≠ 1 ∧ rb ≠ 2 ∧ rb ≠ 5:=fun q => by
   obtain ⟨_,a,b,_,_,p | ⟨_,_,p3,ver,_,p5⟩⟩:=z5
   ·exact absurd p.1 q
   exact ⟨fun e => (by rw [e,z2] at p5; cases p5),fun e => (by rw [e,z3] at p5; cases p5),fun e => (by rw [e,z4] at p5; cases p5),fun e => (by rw [e,d7] at p5; cases p5)⟩
  refine rEnd.mk .ready tm z2 (by simp) ?_
  obtain ⟨h8,hh8⟩:∃ h8,h8 = h7.set 6 (.loop .exhausted none 35 20 tm [8] (rAs Tryd.prog 35 0) (rBd Tryd.prog 35 0) 5):=⟨_,rfl⟩
  change Wc Tryd.prog EU _ _ (h7.set 6 (.loop .exhausted none 35 20 tm [8] (rAs Tryd.prog 35 0) (rBd Tryd.prog 35 0) 5)) _ _ _
  rw [← hh8]
  have hb8:Bd h8 3 rb s:=by
   obtain ⟨b1,a,b,b2,b3,b4⟩:=z5
   refine ⟨by rw [hh8,Heap.n_set]; exact b1,a,b,by rw [hh8,hlow _ 3 (by omega)]; exact b2,b3,?_⟩
   rcases b4 with q | ⟨q1,q2,q3,ver,q4,q5⟩
   ·exact .inl q
   exact .inr ⟨q1,q2,by rw [hh8,Heap.n_set]; exact q3,ver,q4,by rw [hh8,Heap.get_set,if_neg (fun e => (hrb q1).1 e.symm)]; exact q5⟩
  obtain ⟨h9,c9,n9,g9⟩:=cString hb8 (by rw [hs2]; have:=flatD_len d; omega)
  have k1:h9.get 1 = .row 0 9 1 0 (some 1) [.str []]:=by rw [g9 1 (fun q e => (hrb q).2.1 e.symm),hh8,hlow _ 1 (by omega)]; exact z3
  have k2:h9.get 2 = .row 0 4 1 0 (some 1) [.bool false]:=by rw [g9 2 (fun q e => (hrb q).2.2.1 e.symm),hh8,hlow _ 2 (by omega)]; exact z4
  have k5:h9.get 5 = .defs:=by rw [g9 5 (fun q e => (hrb q).2.2.2 e.symm),hh8,hlow _ 5 (by omega)]; exact d7
  have st1:store Tryd.prog h9 9 (.ptr 1 0 0) (.str s) = some (h9.set 1 (.row 0 9 1 0 (some 1) [.str s])):=store_get k1 (by kernel_rfl)
  obtain ⟨h10,hh10⟩:∃ h10,h10 = h9.set 1 (.row 0 9 1 0 (some 1) [.str s]):=⟨_,rfl⟩
  rw [← hh10] at st1
  have st2:store Tryd.prog h10 4 (.ptr 2 0 0) (.bool true) = some (h10.set 2 (.row 0 4 1 0 (some 1) [.bool true])):=store_get (o:=.row 0 4 1 0 (some 1) [.bool false]) (by rw [hh10,Heap.get_set,if_neg (by omega)]; exact k2) (by kernel_rfl)
  obtain ⟨h11,hh11⟩:∃ h11,h11 = h10.set 2 (.row 0 4 1 0 (some 1) [.bool true]):=⟨_,rfl⟩
  rw [← hh11] at st2
  refine Wc.seq (Wc.enter (Wl.s 0 [(0,(.agg [(.int .i64 (d.kind)),(.str (d.text)),(.int .i64 (d.n)),(.osl 4 (esD d))])),(1,(.ptr 0 0 0)),(2,(.ptr 1 0 0)),(3,(.ptr 2 0 0)),(4,(.ptr 3 0 0)),(7,(.func (.func 69) [] [(.ptr 4 0 0)])),(19,(.str s))] (@c9) ?_))
  refine Wl.storeE (b:=({ base 35 20 with marks:=[5] })) (t:=9) (a:=.ptr 1 0 0) (v:=.str s) (d:=none) 1 [2,3] [(2,.ptr 1 0 0),(3,.ptr 2 0 0)] (by kernel_rfl) st1 (by kernel_rfl) ?_
  refine Wl.storeE (b:=({ base 35 20 with marks:=[5] })) (t:=4) (a:=.ptr 2 0 0) (v:=.bool true) (d:=none) 2 [2,3] [(2,.ptr 1 0 0),(3,.ptr 2 0 0)] (by kernel_rfl) st2 (by kernel_rfl) ?_
  refine Wl.dn 3 (Wc.ret ?_)
  obtain ⟨h12,m1,m2,m3⟩:=killMarks_get (ms:=[5]) (h:=h11) (fun m hm => by
   rw [List.mem_singleton] at hm
   subst hm
   rw [hh11,Heap.get_set,if_neg (by omega),hh10,Heap.get_set,if_neg (by omega)]; exact k5) (by simp)
  refine retX.marks h12 (.tup [.str s,.bool true]) rfl m1 (results_cells (p:=.ptr 1 0 0) (q:=.ptr 2 0 0) rfl (by kernel_rfl) (by kernel_rfl) (load_get (o:=.row 0 9 1 0 (some 1) [.str s]) ?_ (by kernel_rfl)) (load_get (o:=.row 0 4 1 0 (some 1) [.bool true]) ?_ (by kernel_rfl))) ?_
  ·rw [m3 1 (by simp),hh11,Heap.get_set,if_neg (by omega),hh10,Heap.get_set,if_pos rfl]
  ·rw [m3 2 (by simp),hh11,Heap.get_set,if_pos rfl]
  rw [hh,← hs2]; rfl
 | false =>
  obtain ⟨z1,z2,z3,z4⟩:=r3
  have hh:hardD d = true:=by
   cases e:hardD d with
   | true => rfl
   | false => rw [e] at t1; cases t1
  refine rEnd.mkC .done .ret tm z2 (by simp) ?_
  obtain ⟨h8,hh8⟩:∃ h8,h8 = h7.set 6 (.loop .exhausted (some .ret) 35 20 tm [8] (rAs Tryd.prog 35 0) (rBd Tryd.prog 35 0) 5):=⟨_,rfl⟩
  change Wc Tryd.prog EU .ret _ (h7.set 6 (.loop .exhausted (some .ret) 35 20 tm [8] (rAs Tryd.prog 35 0) (rBd Tryd.prog 35 0) 5)) _ _ _
  rw [← hh8]
  refine Wc.ret ?_
  obtain ⟨h12,m1,m2,m3⟩:=killMarks_get (ms:=[5]) (h:=h8) (fun m hm => by
   rw [List.mem_singleton] at hm
   subst hm
   rw [hh8,hlow _ 5 (by omega)]; exact d7) (by simp)
  refine retX.marks h12 (.tup [.str [],.bool false]) rfl m1 (results_cells (p:=.ptr 1 0 0) (q:=.ptr 2 0 0) rfl (by kernel_rfl) (by kernel_rfl) (load_get (o:=.row 0 9 1 0 (some 1) [.str []]) ?_ (by kernel_rfl)) (load_get (o:=.row 0 4 1 0 (some 1) [.bool false]) ?_ (by kernel_rfl))) ?_
  ·rw [m3 1 (by simp),hh8,hlow _ 1 (by omega)]; exact z3
  ·rw [m3 2 (by simp),hh8,hlow _ 2 (by omega)]; exact z4
  rw [hh]; rfl
end Go.AM
namespace Go.AM
open Go.Proofs
set_option maxRecDepth 100000
set_option maxHeartbeats 4000000
noncomputable def layS0 (w:Int) (is:Bool):Fr:=(base 15 99).on [(5,.int .i64 w),(6,.ptr 0 0 0),(7,.ptr 1 0 0),(8,.ptr 2 0 0),(9,.bool is)]
noncomputable def layH (tv:V) (r:List Th) (out:List UInt8) (col:Int):Heap :=
 match out with
 | [] => hp [.row 0 51 3 0 (some 1) [.agg [.nilp,.nils,.int .i64 col]],.row 0 54 1 0 (some 1) [.sl 3 0 0 r.length none],.row 0 57 6 0 (some 1) [tv],.row 0 57 6 0 none (r.reverse.map encT)]
 | c :: l => hp [.row 0 51 3 0 (some 1) [.agg [.ptr 0 0 0,.sl 4 0 0 (c :: l).length none,.int .i64 col]],.row 0 54 1 0 (some 1) [.sl 3 0 0 r.length none],.row 0 57 6 0 (some 1) [tv],.row 0 57 6 0 none (r.reverse.map encT),.row 0 5 1 0 none ((c :: l).map bV)]
def pnD (d:Dc):Nat:=d.n.natAbs + ((d.kids.attach.map fun k => pnD k.1).foldr max 0)
termination_by SizeOf.sizeOf d
decreasing_by exact kid_lt k.2
theorem pnD_eq (d:Dc):pnD d = d.n.natAbs + ((d.kids.map pnD).foldr max 0):=by
 rw [pnD]
 congr 2
 conv => rhs; rw [← List.attach_map_subtype_val d.kids,List.map_map]
 rfl
theorem foldr_max {l:List Nat} {x:Nat} (h:x ∈ l):x ≤ l.foldr max 0:=by
 induction l with
 | nil => cases h
 | cons y l IH =>
  rw [List.foldr_cons]
  rcases List.mem_cons.1 h with e | e
  ·omega
  ·have:=IH e; omega
def okL (t:Th):Prop:=rightD t.d ∧ t.n.natAbs + pnD t.d ≤ 320
theorem okL_kids {t:Th} (h:okL t) (fl:Bool):∀ k,k ∈ kidsT t fl → okL k:=fun k hk => by
 unfold kidsT at hk
 obtain ⟨d,hd,rfl⟩:=List.mem_map.1 hk
 refine ⟨right_kids h.1 hd,?_⟩
 have h1:=foldr_max (List.mem_map_of_mem (f:=pnD) hd)
 have h2:=pnD_eq t.d
 have h3:=h.2
 simp only
 omega
theorem okL_ok {t:Th} (h:okL t) (hs:szD t.d ≤ 2000):okT t:=⟨h.1,by have:=h.2; omega⟩
abbrev LayA:=Option Th × List Th × List UInt8 × Int
def layT (a:LayA):List Th:=a.1.toList ++ a.2.1
noncomputable def curV:Option Th → V
 | none => .agg [.int .i64 0,.str [],.int .i64 0,.nils,.bool false,.int .i64 0]
 | some t => encT t
structure LayQ (w:Int) (R:List UInt8) (L:List Th) (out:List UInt8) (col:Int):Prop where
 ok:∀ t,t ∈ L → okL t
 sum:sumT L ≤ 2000
 hcol:0 ≤ col ∧ col + sumT L ≤ 3000
 hout:out.length + 400 * sumT L ≤ 1000000
 all:out ++ layS w L col = R
def layI (w:Int) (R:List UInt8) (a:LayA):Prop:=LayQ w R (layT a) a.2.2.1 a.2.2.2 ∧ (a.1 = none → a.2.1 = [])
theorem lay_cons {w col:Int} {t:Th} {r:List Th}:layS w (t :: r) col = if t.d.kind = 1 then t.d.text ++ layS w r (colS t.d.text col)
  else if t.d.kind = 2 ∨ t.d.kind = 3 ∨ t.d.kind = 4 then
   (if !t.flat || t.d.kind = 4 then endS t.n ++ layS w r (t.n.toNat:Int)
   else if t.d.kind = 2 then 32 :: layS w r (col + 1)
   else layS w r col)
  else if t.d.kind = 6 then
   (if !hardD t.d && fitsS w (kidsT t true ++ r) col then layS w (kidsT t true ++ r) col else layS w (kidsT t t.flat ++ r) col)
  else layS w (kidsT t t.flat ++ r) col:=by
 conv => lhs; unfold layS
theorem lastLine_le (s:List UInt8):(lastLine s).length ≤ s.length:=by unfold lastLine; rw [List.length_drop]; omega
theorem colS_le {s:List UInt8} {col:Int} (h:0 ≤ col):0 ≤ colS s col ∧ colS s col ≤ col + s.length:=by
 have h1:=wide_le s
 have h2:=wide_le (lastLine s)
 have h3:=lastLine_le s
 unfold colS
 split <;> omega
theorem colS_end (n:Int) (col:Int):colS (endS n) col = (n.toNat:Int):=by
 have hm:(10:UInt8) ∈ endS n:=by unfold endS; simp
 have hf:hasFeed (endS n) = true:=decide_eq_true hm
 unfold colS
 rw [if_pos hf,lastLine_B]
 have hb:lastB 10 (endS n) = 0:=by
  unfold endS
  have h1:∀ k,lastB 10 (blanksOf k) = -1:=by
   intro k
   induction k with
   | zero => rfl
   | succ k IH =>
    have e:blanksOf (k + 1) = 32 :: blanksOf k:=rfl
    rw [e]
    simp only [lastB]
    rw [IH]; rfl
  simp only [lastB]
  rw [h1]; rfl
 rw [hb]
 have:(endS n).drop (Int.toNat (0 + 1)) = blanksOf n.toNat:=rfl
 rw [this,wide_blanks]
theorem colS_blank (col:Int):colS [32] col = col + 1:=by
 have h1:=wide_blanks 1
 have:wide [32] = 1:=h1
 unfold colS
 rw [if_neg (by decide),this]; rfl
section layq
variable {w:Int} {R out:List UInt8} {t:Th} {r:List Th} {col:Int}
theorem LayQ.text (hQ:LayQ w R (t :: r) out col) (hk:t.d.kind = 1):LayQ w R r (out ++ t.d.text) (colS t.d.text col):=by
 obtain ⟨a,b,c,d,e⟩:=hQ
 rw [sumT_cons] at b c d
 have h1:=colS_le (s:=t.d.text) c.1
 have h2:=szD_text t.d
 refine ⟨fun u hu => a u (by simp [hu]),by omega,by omega,by rw [List.length_append]; omega,?_⟩
 rw [← e,lay_cons,if_pos hk,List.append_assoc]
theorem LayQ.line (hQ:LayQ w R (t :: r) out col) (hk:t.d.kind = 2 ∨ t.d.kind = 3 ∨ t.d.kind = 4) (hf:t.flat = false ∨ t.d.kind = 4):LayQ w R r (out ++ endS t.n) (colS (endS t.n) col):=by
 obtain ⟨a,b,c,d,e⟩:=hQ
 rw [sumT_cons] at b c d
 have h2:=szD_pos t.d
 have h3:=(a t (by simp)).2
 have hl:(endS t.n).length ≤ 321:=by unfold endS; rw [List.length_cons,blanksOf_length]; omega
 rw [colS_end]
 refine ⟨fun u hu => a u (by simp [hu]),by omega,by omega,by rw [List.length_append]; omega,?_⟩
 have hc:(!t.flat || decide (t.d.kind = 4)) = true:=by
  rcases hf with q | q
  ·rw [q]; rfl
  ·rw [decide_eq_true q]; simp
 rw [← e,lay_cons,if_neg (by omega),if_pos hk,if_pos hc,List.append_assoc]
theorem LayQ.blank (hQ:LayQ w R (t :: r) out col) (hk:t.d.kind = 2) (hf:t.flat = true):LayQ w R r (out ++ [32]) (colS [32] col):=by
 obtain ⟨a,b,c,d,e⟩:=hQ
 rw [sumT_cons] at b c d
 have h2:=szD_pos t.d
 rw [colS_blank]
 refine ⟨fun u hu => a u (by simp [hu]),by omega,by omega,by rw [List.length_append]; simp; omega,?_⟩
 have hc:¬ (!t.flat || decide (t.d.kind = 4)) = true:=by rw [hf,decide_eq_false (by omega)]; decide
 rw [← e,lay_cons,if_neg (by omega),if_pos (.inl hk),if_neg hc,if_pos hk,List.append_assoc]; rfl
theorem LayQ.soft (hQ:LayQ w R (t :: r) out col) (hk:t.d.kind = 3) (hf:t.flat = true):LayQ w R r out col:=by
 obtain ⟨a,b,c,d,e⟩:=hQ
 rw [sumT_cons] at b c d
 have h2:=szD_pos t.d
 refine ⟨fun u hu => a u (by simp [hu]),by omega,by omega,by omega,?_⟩
 have hc:¬ (!t.flat || decide (t.d.kind = 4)) = true:=by rw [hf,decide_eq_false (by omega)]; decide
 rw [← e,lay_cons,if_neg (by omega),if_pos (.inr (.inl hk)),if_neg hc,if_neg (by omega)]
theorem LayQ.push (hQ:LayQ w R (t :: r) out col) (fl:Bool) (he:layS w (kidsT t fl ++ r) col = layS w (t :: r) col):LayQ w R (kidsT t fl ++ r) out col:=by
 obtain ⟨a,b,c,d,e⟩:=hQ
 rw [sumT_cons] at b c d
 have h2:=sumT_kids t fl
 refine ⟨fun u hu => ?_,by rw [sumT_app]; omega,by rw [sumT_app]; omega,by rw [sumT_app]; omega,by rw [he]; exact e⟩
 rcases List.mem_append.1 hu with q | q
 ·exact okL_kids (a t (by simp)) fl u q
 ·exact a u (by simp [q])
theorem lay_other (h1:¬ t.d.kind = 1) (h2:¬ (t.d.kind = 2 ∨ t.d.kind = 3 ∨ t.d.kind = 4)) (h6:¬ t.d.kind = 6):layS w (kidsT t t.flat ++ r) col = layS w (t :: r) col:=by
 rw [lay_cons,if_neg h1,if_neg h2,if_neg h6]
theorem lay_yes (h6:t.d.kind = 6) (h:(!hardD t.d && fitsS w (kidsT t true ++ r) col) = true):layS w (kidsT t true ++ r) col = layS w (t :: r) col:=by
 rw [lay_cons (t:=t),if_neg (by omega),if_neg (by omega),if_pos h6,if_pos h]
theorem lay_no (h6:t.d.kind = 6) (h:(!hardD t.d && fitsS w (kidsT t true ++ r) col) = false):layS w (kidsT t t.flat ++ r) col = layS w (t :: r) col:=by
 rw [lay_cons (t:=t),if_neg (by omega),if_neg (by omega),if_pos h6,if_neg (by rw [h]; decide)]
end layq
theorem cFitsG {ks rl:List Th} {col w:Int} {c:Option Nat} (hk:∀ t,t ∈ ks ++ rl.reverse → okT t) (hs:sumT (ks ++ rl.reverse) ≤ 100000) (hc:0 ≤ col ∧ col ≤ 1000000000) (hw:-1000000000 ≤ w ∧ w ≤ 1000000000):Cp Tryd.prog EU 36 [.osl 6 (ks.map encT),.gsl 6 (rl.map encT) c,.int .i64 col,.int .i64 w] (.bool (fitsS w (ks ++ rl.reverse) col)) :=
 .args (.cons (.refl _) (.cons .gsl (.cons (.refl _) (.cons (.refl _) .nil)))) (cFits hk hs hc hw)
theorem layFits {w col:Int} {t:Th} {r:List Th} (h:Heap) (hr:∀ u,u ∈ r → okL u) (ht:okL t) (hsum:szD t.d + sumT r ≤ 2000) (hc:0 ≤ col) (hc2:col ≤ 3000) (hw:0 ≤ w ∧ w ≤ 10000) (hg:h.get 3 = .row 0 57 6 0 none (r.reverse.map encT)):∀ b,fitsS w (kidsT t true ++ r) col = b → Came Tryd.prog EU 36 [.osl 6 ((kidsT t true).map encT),.sl 3 0 0 r.length none,.int .i64 col,.int .i64 w] h (.bool b) h:=by
 intro b hb
 have hsz:∀ u,u ∈ r → szD u.d ≤ 2000:=fun u hu => by
  have:szD u.d ≤ sumT r:=by
   clear hg hsum hb
   induction r with
   | nil => cases hu
   | cons v r IH =>
    rw [sumT_cons]
    rcases List.mem_cons.1 hu with e | e
    ·subst e; omega
    ·have:=IH (fun u hu => hr u (by simp [hu])) e; omega
  omega
 have hok:∀ u,u ∈ kidsT t true ++ r.reverse.reverse → okT u:=fun u hu => by
  rw [List.reverse_reverse] at hu
  rcases List.mem_append.1 hu with q | q
  ·exact okT_kids (okL_ok ht (by omega)) true u q
  ·exact okL_ok (hr u q) (hsz u q)
 have hs2:sumT (kidsT t true ++ r.reverse.reverse) ≤ 100000:=by
  rw [List.reverse_reverse,sumT_app]
  have:=sumT_kids t true
  omega
 have hf:=cFitsG (c:=none) hok hs2 ⟨hc,by omega⟩ (w:=w) ⟨by omega,by omega⟩
 rw [List.reverse_reverse,hb] at hf
 have e1:=pub_row (c:=none) hg (n:=r.length) (by simp) (pd_map (fun _ _ => rfl) _)
 refine Cp.came (gs:=[.osl 6 ((kidsT t true).map encT),.gsl 6 (r.reverse.map encT) none,.int .i64 col,.int .i64 w]) (by kernel_rfl) (h1:=h.set 3 (.row 0 57 6 (Nat.max 0 (Nat.add 0 r.length)) none (r.reverse.map encT))) ?_ (by kernel_rfl) hf (by kernel_rfl)
 rw [pubL_cons,show AM.pub [] depth h (.osl 6 ((kidsT t true).map encT)) = some (.osl 6 ((kidsT t true).map encT),h) from rfl]
 simp only [pubL_cons,e1]
 rfl
def LayE (w:Int) (R:List UInt8) (t:Th) (n:Nat) (s:Fr) (h:Heap):Prop:=∃ m:List Th × List UInt8 × Int,Vw 0 s h ((base 15 99).on [(5,.int .i64 w),(6,.ptr 0 0 0),(7,.ptr 1 0 0),(8,.ptr 2 0 0)]) (layH (encT t) m.1 m.2.1 m.2.2) ∧ LayQ w R m.1 m.2.1 m.2.2 ∧ sizeT m.1 < n
theorem layEndN {w:Int} {R:List UInt8} {t:Th} {s:Fr} {h:Heap} {L:List Th} {c:Int} {es:List V} {nL n:Nat} (hv:Vw 0 s h ((base 15 99).on [(5,.int .i64 w),(6,.ptr 0 0 0),(7,.ptr 1 0 0),(8,.ptr 2 0 0)]) (hp [.row 0 51 3 0 (some 1) [.agg [.nilp,.nils,.int .i64 c]],.row 0 54 1 0 (some 1) [.sl 3 0 0 nL none],.row 0 57 6 0 (some 1) [encT t],.row 0 57 6 0 none es])) (hnL:nL = L.length) (hes:es = L.reverse.map encT) (hq:LayQ w R L [] c) (hlt:sizeT L < n):LayE w R t n s h:=by
 subst hnL hes
 exact ⟨(L,[],c),hv,hq,hlt⟩
theorem layEndB {w:Int} {R:List UInt8} {t:Th} {s:Fr} {h:Heap} {L:List Th} {o:List UInt8} {c:Int} {es bs:List V} {nL nO n:Nat} (hv:Vw 0 s h ((base 15 99).on [(5,.int .i64 w),(6,.ptr 0 0 0),(7,.ptr 1 0 0),(8,.ptr 2 0 0)]) (hp [.row 0 51 3 0 (some 1) [.agg [.ptr 0 0 0,.sl 4 0 0 nO none,.int .i64 c]],.row 0 54 1 0 (some 1) [.sl 3 0 0 nL none],.row 0 57 6 0 (some 1) [encT t],.row 0 57 6 0 none es,.row 0 5 1 0 none bs])) (hnO:nO = o.length) (hbs:bs = o.map bV) (ho:o ≠ []) (hnL:nL = L.length) (hes:es = L.reverse.map encT) (hq:LayQ w R L o c) (hlt:sizeT L < n):LayE w R t n s h:=by
 subst hnL hes hnO hbs
 refine ⟨(L,o,c),?_,hq,hlt⟩
 cases o with
 | nil => exact absurd rfl ho
 | cons b o => exact hv
theorem layDoneN {w:Int} {R:List UInt8} {s:Fr} {h:Heap} {cur:Option Th} {L:List Th} {c:Int} {es:List V} {nL n:Nat} {isb:Bool} (hv:Vw 0 s h ((base 15 99).on [(5,.int .i64 w),(6,.ptr 0 0 0),(7,.ptr 1 0 0),(8,.ptr 2 0 0),(9,.bool isb)]) (hp [.row 0 51 3 0 (some 1) [.agg [.nilp,.nils,.int .i64 c]],.row 0 54 1 0 (some 1) [.sl 3 0 0 nL none],.row 0 57 6 0 (some 1) [curV cur],.row 0 57 6 0 none es])) (his:isb = cur.isSome) (hnL:nL = L.length) (hes:es = L.reverse.map encT) (hq:LayQ w R (cur.toList ++ L) [] c) (hN:cur = none → L = []) (hlt:sizeT (cur.toList ++ L) < n):∃ a:LayA,Vw 0 s h (layS0 w a.1.isSome) (layH (curV a.1) a.2.1 a.2.2.1 a.2.2.2) ∧ layI w R a ∧ sizeT (layT a) < n:=by
 subst hnL hes his
 exact ⟨(cur,L,[],c),hv,⟨hq,hN⟩,hlt⟩
theorem layDoneB {w:Int} {R o:List UInt8} {s:Fr} {h:Heap} {cur:Option Th} {L:List Th} {c:Int} {es:List V} {nL n:Nat} {isb:Bool} (hv:Vw 0 s h ((base 15 99).on [(5,.int .i64 w),(6,.ptr 0 0 0),(7,.ptr 1 0 0),(8,.ptr 2 0 0),(9,.bool isb)]) (hp [.row 0 51 3 0 (some 1) [.agg [.ptr 0 0 0,.sl 4 0 0 o.length none,.int .i64 c]],.row 0 54 1 0 (some 1) [.sl 3 0 0 nL none],.row 0 57 6 0 (some 1) [curV cur],.row 0 57 6 0 none es,.row 0 5 1 0 none (o.map bV)])) (ho:o ≠ []) (his:isb = cur.isSome) (hnL:nL = L.length) (hes:es = L.reverse.map encT) (hq:LayQ w R (cur.toList ++ L) o c) (hN:cur = none → L = []) (hlt:sizeT (cur.toList ++ L) < n):∃ a:LayA,Vw 0 s h (layS0 w a.1.isSome) (layH (curV a.1) a.2.1 a.2.2.1 a.2.2.2) ∧ layI w R a ∧ sizeT (layT a) < n:=by
 subst hnL hes his
 refine ⟨(cur,L,o,c),?_,⟨hq,hN⟩,hlt⟩
 cases o with
 | nil => exact absurd rfl ho
 | cons b o => exact hv
theorem wke_agg {r v o n:Nat} {c:Option Nat}:Wke (.agg [.sl r v o n c]) (.sl r v o n c):=⟨rfl,rfl,fun j a b p q => by
 change [V.sl r v o n c][j]? = some a at p
 change [V.sl r v o n c][j]? = some b at q
 rw [p] at q; cases q; exact .refl _⟩
theorem cLayout {d:Dc} {wd:Int} (hr:rightD d) (hs:szD d ≤ 2000) (hpn:pnD d ≤ 320):Cp Tryd.prog EU 15 [encD d,.int .i64 wd] (.str (layS (max 0 (min wd 10000)) [⟨d,false,0⟩] 0)):=by
 refine Cp.body (fn:=Tryd.f15) Tryd.func15 rfl (by kernel_rfl) ?_
 refine Wc.seq (Wc.wn0 [(0,(.agg [(.int .i64 (d.kind)),(.str (d.text)),(.int .i64 (d.n)),(.osl 4 (esD d))])),(1,(.int .i64 (wd))),(2,(.ptr 0 0 0)),(4,(.str []))] (hp [.row 0 26 4 0 (some 1) [(.agg [(.int .i64 (d.kind)),(.str (d.text)),(.int .i64 (d.n)),(.osl 4 (esD d))])]]) ?_)
 refine Wc.seq (Wc.w0 [(5,(.int .i64 (max 0 (min wd 10000))))] ?_)
 refine Wc.seq (Wc.wn0 [(6,(.ptr 1 0 0))] (hp [.row 0 26 4 0 (some 1) [(.agg [(.int .i64 (d.kind)),(.str (d.text)),(.int .i64 (d.n)),(.osl 4 (esD d))])],.row 0 51 3 0 (some 1) [(.agg [.nilp,.nils,(.int .i64 0)])]]) ?_)
 refine Wc.seq (Wc.wn0 [(7,(.ptr 2 0 0))] (hp [.row 0 26 4 0 (some 1) [(.agg [(.int .i64 (d.kind)),(.str (d.text)),(.int .i64 (d.n)),(.osl 4 (esD d))])],.row 0 51 3 0 (some 1) [(.agg [.nilp,.nils,(.int .i64 0)])],.row 0 54 1 0 (some 1) [(.agg [.nils])]]) ?_)
 refine Wc.seq (Wc.enter (Wl.b0 0 3 [(18,(.gsl 6 [(.agg [(.int .i64 (d.kind)),(.str (d.text)),(.int .i64 (d.n)),(.osl 4 (esD d)),(.bool false),(.int .i64 0)])] (some 1)))] ?_))
 refine Wl.callI (b:=(base 15 99)) (h1:=(hp [.row 0 26 4 0 (some 1) [(.agg [(.int .i64 (d.kind)),(.str (d.text)),(.int .i64 (d.n)),(.osl 4 (esD d))])],.row 0 51 3 0 (some 1) [(.agg [.nilp,.nils,(.int .i64 0)])],.row 0 54 1 0 (some 1) [(.agg [.nils])]])) (args:=[(.ptr 2 0 0),(.gsl 6 [(.agg [(.int .i64 (d.kind)),(.str (d.text)),(.int .i64 (d.n)),(.osl 4 (esD d)),(.bool false),(.int .i64 0)])] (some 1))]) (d:=(some 19)) (fn:=Go.Proofs.Tryd.f30) 3 Go.Proofs.Tryd.func30 rfl (by kernel_rfl) (by kernel_rfl) ?_
 refine Wc.seq (Wc.wn [(0,(.ptr 2 0 0)),(1,(.gsl 6 [(.agg [(.int .i64 (d.kind)),(.str (d.text)),(.int .i64 (d.n)),(.osl 4 (esD d)),(.bool false),(.int .i64 0)])] (some 1))),(4,(.int .i64 0))] (hp [.row 0 26 4 0 (some 1) [(.agg [(.int .i64 (d.kind)),(.str (d.text)),(.int .i64 (d.n)),(.osl 4 (esD d))])],.row 0 51 3 0 (some 1) [(.agg [.nilp,.nils,(.int .i64 0)])],.row 0 54 1 0 (some 1) [(.agg [.nils])]]) [(((-9223372036854775808:Int) ≤ (↑(1):Int) - 1) ∧ ((↑(1):Int) - 1 ≤ (9223372036854775807:Int)))] (.cons (by simp) .nil) ?_)
 refine Wc.block (Wc.unroll (Wc.seq (Wc.seq (Wc.wn0 [(0,(.ptr 2 0 0)),(1,(.gsl 6 [(.agg [(.int .i64 (d.kind)),(.str (d.text)),(.int .i64 (d.n)),(.osl 4 (esD d)),(.bool false),(.int .i64 0)])] (some 1))),(4,(.int .i64 0)),(9,(.bool true))] (hp [.row 0 26 4 0 (some 1) [(.agg [(.int .i64 (d.kind)),(.str (d.text)),(.int .i64 (d.n)),(.osl 4 (esD d))])],.row 0 51 3 0 (some 1) [(.agg [.nilp,.nils,(.int .i64 0)])],.row 0 54 1 0 (some 1) [(.agg [.nils])]]) ?_))))
 refine Wc.ct (Wc.skip (Wc.seq (Wc.block (Wc.drawn0 (by kernel_rfl) ?_))))
 refine Dl.bn 0 14 [] (hp [.row 0 26 4 0 (some 1) [(.agg [(.int .i64 (d.kind)),(.str (d.text)),(.int .i64 (d.n)),(.osl 4 (esD d))])],.row 0 51 3 0 (some 1) [(.agg [.nilp,.nils,(.int .i64 0)])],.row 0 54 1 0 (some 1) [(.agg [(.sl 3 0 0 1 none)])],.row 0 57 6 0 none [(.agg [(.int .i64 (d.kind)),(.str (d.text)),(.int .i64 (d.n)),(.osl 4 (esD d)),(.bool false),(.int .i64 0)])]]) [(((0:Int) ≤ 0) ∧ ((0:Int) < (↑(1):Int))),(([V.agg [V.int .i64 d.kind,V.str d.text,V.int .i64 d.n,V.osl 4 (esD d),V.bool false,V.int .i64 0]] ≠ []) ∧ ((1 ≤ (1099511627776:Nat)) ∧ (1 * 72 ≤ (1099511627776:Nat))))] (.cons (by simp) (.cons (by simp) .nil)) ?_
 refine Dl.done 14 rfl ?_
 refine Wc.w [(4,(.int .i64 (-1)))] [(i64r ((-1:Int)))] (.cons (by omega) .nil) ?_
 refine Wc.unroll (Wc.seq (Wc.seq (Wc.wn0 [(0,(.ptr 2 0 0)),(1,(.gsl 6 [(.agg [(.int .i64 (d.kind)),(.str (d.text)),(.int .i64 (d.n)),(.osl 4 (esD d)),(.bool false),(.int .i64 0)])] (some 1))),(4,(.int .i64 (-1))),(9,(.bool false))] (hp [.row 0 26 4 0 (some 1) [(.agg [(.int .i64 (d.kind)),(.str (d.text)),(.int .i64 (d.n)),(.osl 4 (esD d))])],.row 0 51 3 0 (some 1) [(.agg [.nilp,.nils,(.int .i64 0)])],.row 0 54 1 0 (some 1) [(.agg [(.sl 3 0 0 1 none)])],.row 0 57 6 0 none [(.agg [(.int .i64 (d.kind)),(.str (d.text)),(.int .i64 (d.n)),(.osl 4 (esD d)),(.bool false),(.int .i64 0)])]]) ?_)))
 refine Wc.cf (Wc.exit (blockX.here ?_))
 refine retX.mk (.tup []) ⟨rfl,rfl⟩ (by kernel_rfl) ?_
 refine cNext.mk [0,1,2,4,5,6,7] [(0,(.agg [(.int .i64 (d.kind)),(.str (d.text)),(.int .i64 (d.n)),(.osl 4 (esD d))])),(1,(.int .i64 (wd))),(2,(.ptr 0 0 0)),(4,(.str [])),(5,(.int .i64 (max 0 (min wd 10000)))),(6,(.ptr 1 0 0)),(7,(.ptr 2 0 0))] (by kernel_rfl) ?_
 refine Wl.dn 4 (Wc.seq (Wc.seq (Wc.enter (Wl.callI (b:=(base 15 99)) (h1:=(hp [.row 0 26 4 0 (some 1) [(.agg [(.int .i64 (d.kind)),(.str (d.text)),(.int .i64 (d.n)),(.osl 4 (esD d))])],.row 0 51 3 0 (some 1) [(.agg [.nilp,.nils,(.int .i64 0)])],.row 0 54 1 0 (some 1) [(.agg [(.sl 3 0 0 1 none)])],.row 0 57 6 0 none [(.agg [(.int .i64 (d.kind)),(.str (d.text)),(.int .i64 (d.n)),(.osl 4 (esD d)),(.bool false),(.int .i64 0)])]])) (args:=[(.ptr 2 0 0)]) (d:=(some 21)) (fn:=Go.Proofs.Tryd.f31) 0 Go.Proofs.Tryd.func31 rfl (by kernel_rfl) (by kernel_rfl) ?_))))
 refine Wc.seq (Wc.wn0 [(0,(.ptr 2 0 0)),(2,(.ptr 4 0 0)),(3,(.bool false))] (hp [.row 0 26 4 0 (some 1) [(.agg [(.int .i64 (d.kind)),(.str (d.text)),(.int .i64 (d.n)),(.osl 4 (esD d))])],.row 0 51 3 0 (some 1) [(.agg [.nilp,.nils,(.int .i64 0)])],.row 0 54 1 0 (some 1) [(.agg [(.sl 3 0 0 1 none)])],.row 0 57 6 0 none [(.agg [(.int .i64 (d.kind)),(.str (d.text)),(.int .i64 (d.n)),(.osl 4 (esD d)),(.bool false),(.int .i64 0)])],.row 0 57 6 0 (some 1) [(.agg [(.int .i64 0),(.str []),(.int .i64 0),.nils,(.bool false),(.int .i64 0)])]]) ?_)
 refine Wc.seq (Wc.seq (Wc.w0 [(9,(.bool false))] ?_))
 refine Wc.cf (Wc.skip (Wc.seq (Wc.drawn0 (by kernel_rfl) ?_)))
 refine Dl.bn 0 13 [] (hp [.row 0 26 4 0 (some 1) [(.agg [(.int .i64 (d.kind)),(.str (d.text)),(.int .i64 (d.n)),(.osl 4 (esD d))])],.row 0 51 3 0 (some 1) [(.agg [.nilp,.nils,(.int .i64 0)])],.row 0 54 1 0 (some 1) [(.agg [(.sl 3 0 0 1 none)])],.row 0 57 6 0 none [(.agg [(.int .i64 (d.kind)),(.str (d.text)),(.int .i64 (d.n)),(.osl 4 (esD d)),(.bool false),(.int .i64 0)])],.row 0 57 6 0 (some 1) [(.agg [(.int .i64 (d.kind)),(.str (d.text)),(.int .i64 (d.n)),(.osl 4 (esD d)),(.bool false),(.int .i64 0)])]]) [(i64r (0:Int)),(((0:Int) ≤ 0) ∧ ((0:Int) < 1))] (.cons (by omega) (.cons (by omega) .nil)) ?_
 refine Dl.done 13 rfl ?_
 refine Wc.seq (Wc.drawn0 (by kernel_rfl) ?_)
 refine Dl.bn 0 15 [] (hp [.row 0 26 4 0 (some 1) [(.agg [(.int .i64 (d.kind)),(.str (d.text)),(.int .i64 (d.n)),(.osl 4 (esD d))])],.row 0 51 3 0 (some 1) [(.agg [.nilp,.nils,(.int .i64 0)])],.row 0 54 1 0 (some 1) [(.agg [(.sl 3 0 0 0 none)])],.row 0 57 6 0 none [(.agg [(.int .i64 (d.kind)),(.str (d.text)),(.int .i64 (d.n)),(.osl 4 (esD d)),(.bool false),(.int .i64 0)])],.row 0 57 6 0 (some 1) [(.agg [(.int .i64 (d.kind)),(.str (d.text)),(.int .i64 (d.n)),(.osl 4 (esD d)),(.bool false),(.int .i64 0)])]]) [(i64r (0:Int)),(((0:Int) ≤ 0) ∧ ((0:Int) ≤ 1))] (.cons (by omega) (.cons (by omega) .nil)) ?_
 refine Dl.done 15 rfl ?_
 refine Wc.seq (Wc.w0 [(3,(.bool true))] ?_)
 refine Wc.ret ?_
 refine retX.mk (.tup [(.agg [(.int .i64 (d.kind)),(.str (d.text)),(.int .i64 (d.n)),(.osl 4 (esD d)),(.bool false),(.int .i64 0)]),(.bool true)]) ⟨rfl,rfl⟩ (by kernel_rfl) ?_
 refine cNext.mk [0,1,2,4,5,6,7,21] [(0,(.agg [(.int .i64 (d.kind)),(.str (d.text)),(.int .i64 (d.n)),(.osl 4 (esD d))])),(1,(.int .i64 (wd))),(2,(.ptr 0 0 0)),(4,(.str [])),(5,(.int .i64 (max 0 (min wd 10000)))),(6,(.ptr 1 0 0)),(7,(.ptr 2 0 0)),(21,(.tup [(.agg [(.int .i64 (d.kind)),(.str (d.text)),(.int .i64 (d.n)),(.osl 4 (esD d)),(.bool false),(.int .i64 0)]),(.bool true)]))] (by kernel_rfl) ?_
 refine Wl.bn0 1 7 [(8,(.ptr 5 0 0)),(9,(.bool true))] (hp [.row 0 26 4 0 (some 1) [(.agg [(.int .i64 (d.kind)),(.str (d.text)),(.int .i64 (d.n)),(.osl 4 (esD d))])],.row 0 51 3 0 (some 1) [(.agg [.nilp,.nils,(.int .i64 0)])],.row 0 54 1 0 (some 1) [(.agg [(.sl 3 0 0 0 none)])],.row 0 57 6 0 none [(.agg [(.int .i64 (d.kind)),(.str (d.text)),(.int .i64 (d.n)),(.osl 4 (esD d)),(.bool false),(.int .i64 0)])],.row 0 57 6 0 (some 1) [(.agg [(.int .i64 (d.kind)),(.str (d.text)),(.int .i64 (d.n)),(.osl 4 (esD d)),(.bool false),(.int .i64 0)])],.row 0 57 6 0 (some 1) [(.agg [(.int .i64 (d.kind)),(.str (d.text)),(.int .i64 (d.n)),(.osl 4 (esD d)),(.bool false),(.int .i64 0)])]]) ?_
 refine Wl.dn 7 (Wc.block ?_)
 obtain ⟨w,hw⟩:∃ w,w = max 0 (min wd 10000):=⟨_,rfl⟩
 have hw2:0 ≤ w ∧ w ≤ 10000:=by omega
 rw [← hw]
 refine Wc.loopV (α:=LayA) (fun a => layS0 w a.1.isSome) (fun a => layH (curV a.1) a.2.1 a.2.2.1 a.2.2.2) (layI w (layS w [⟨d,false,0⟩] 0)) (fun a => sizeT (layT a)) (some ⟨d,false,0⟩,[],[],0) ?_ ?_ ?_
 ·change Vw _ _ _ ((base 15 99).on [(5,.int .i64 w),(6,.ptr 0 0 0),(7,.ptr 1 0 0),(8,.ptr 2 0 0),(9,.bool true)]) (hp [.row 0 51 3 0 (some 1) [.agg [.nilp,.nils,.int .i64 0]],.row 0 54 1 0 (some 1) [.sl 3 0 0 0 none],.row 0 57 6 0 (some 1) [encT ⟨d,false,0⟩],.row 0 57 6 0 none []])
  refine Vw.trans (Vw.row (ver:=0) (ty:=54) (sz:=1) (pub:=0) (cap:=some 1) (es:=[.agg [.sl 3 0 0 0 none]]) 2 [.sl 3 0 0 0 none] (by kernel_rfl) (Nat.zero_le _) (Nat.le_refl _) (wke_row wke_agg)) ?_
  refine Vw.trans (Vw.row (ver:=0) (ty:=57) (sz:=6) (pub:=0) (cap:=none) (es:=[encT ⟨d,false,0⟩]) 3 [] (by kernel_rfl) (Nat.zero_le _) (Nat.zero_le _) (fun i e e' _ q => by simp at q)) ?_
  exact Vw.gk [(1,false),(2,false),(5,false),(3,false)] [(0 = 0),(0 = 0),(0 = 0),(0 = 0)] (.cons (by omega) (.cons (by omega) (.cons (by omega) (.cons (by omega) .nil))))
 ·have h1:=szD_pos d
  refine ⟨⟨fun t ht => ?_,?_,?_,?_,rfl⟩,fun e => by cases e⟩
  ·have ht:t ∈ [(⟨d,false,0⟩:Th)]:=ht
   rw [List.mem_singleton] at ht
   subst ht
   exact ⟨hr,by simpa using hpn⟩
  ·show sumT [(⟨d,false,0⟩:Th)] ≤ 2000
   rw [sumT_cons,sumT_nil]; simpa using hs
  ·show (0:Int) ≤ 0 ∧ (0:Int) + sumT [(⟨d,false,0⟩:Th)] ≤ 3000
   rw [sumT_cons,sumT_nil]; simp; omega
  show 0 + 400 * sumT [(⟨d,false,0⟩:Th)] ≤ 1000000
  rw [sumT_cons,sumT_nil]; simp; omega
 rintro ⟨cur,r,out,col⟩ ⟨hQ,hN⟩
 cases cur with
 | none =>
  have hr0:r = []:=hN rfl
  subst hr0
  have hall:out = layS w [⟨d,false,0⟩] 0:=by
   have:=hQ.all
   change out ++ layS w [] col = _ at this
   rw [layS] at this; simpa using this
  have hol:out.length ≤ 1000000:=by have:=hQ.hout; simp only at this; omega
  cases out with
  | nil =>
   change Wc Tryd.prog EU _ ((base 15 99).on [(5,.int .i64 w),(6,.ptr 0 0 0),(7,.ptr 1 0 0),(8,.ptr 2 0 0),(9,.bool false)]) (hp [.row 0 51 3 0 (some 1) [.agg [.nilp,.nils,.int .i64 col]],.row 0 54 1 0 (some 1) [.sl 3 0 0 0 none],.row 0 57 6 0 (some 1) [curV none],.row 0 57 6 0 none []]) _ _ _
   have cs:=cStr0 (h:=hp [.row 0 51 3 0 (some 1) [.agg [.nilp,.nils,.int .i64 col]],.row 0 54 1 0 (some 1) [.sl 3 0 0 0 none],.row 0 57 6 0 (some 1) [curV none],.row 0 57 6 0 none []]) (r:=0) (by kernel_rfl)
   refine Wc.seq (Wc.seq (Wc.wn0 [(5,(.int .i64 (w))),(6,(.ptr 0 0 0)),(7,(.ptr 1 0 0)),(8,(.ptr 2 0 0)),(9,(.bool false)),(24,(.bool false))] (hp [.row 0 51 3 0 (some 1) [(.agg [.nilp,.nils,(.int .i64 (col))])],.row 0 54 1 0 (some 1) [(.sl 3 0 0 0 none)],.row 0 57 6 0 (some 1) [(.agg [(.int .i64 0),(.str []),(.int .i64 0),.nils,(.bool false),(.int .i64 0)])],.row 0 57 6 0 none []]) ?_))
   refine Wc.cf (Wc.exit (blockX.here (Wc.seq (Wc.enter (Wl.b0 0 1 [(97,(.ptr 0 0 0))] ?_)))))
   refine Wl.callI (b:=(base 15 99)) (h1:=(hp [.row 0 51 3 0 (some 1) [(.agg [.nilp,.nils,(.int .i64 (col))])],.row 0 54 1 0 (some 1) [(.sl 3 0 0 0 none)],.row 0 57 6 0 (some 1) [(.agg [(.int .i64 0),(.str []),(.int .i64 0),.nils,(.bool false),(.int .i64 0)])],.row 0 57 6 0 none []])) (args:=[(.ptr 0 0 0)]) (d:=(some 98)) (fn:=Go.Proofs.Tryd.f37) 1 Go.Proofs.Tryd.func37 rfl (by kernel_rfl) (by kernel_rfl) ?_
   refine Wc.seq (Wc.wn0 [(0,(.ptr 0 0 0)),(2,(.str []))] (hp [.row 0 51 3 0 (some 1) [(.agg [.nilp,.nils,(.int .i64 (col))])],.row 0 54 1 0 (some 1) [(.sl 3 0 0 0 none)],.row 0 57 6 0 (some 1) [(.agg [(.int .i64 0),(.str []),(.int .i64 0),.nils,(.bool false),(.int .i64 0)])],.row 0 57 6 0 none []]) ?_)
   refine Wc.seq (Wc.drawn0 (by kernel_rfl) ?_)
   refine Dl.b0 0 12 [] ?_
   refine Dl.done 12 rfl ?_
   refine Wc.ret ?_
   refine retX.mk (.str []) ⟨rfl,rfl⟩ (by kernel_rfl) ?_
   refine cNext.mk [5,6,7,8,9,24,98] [(5,(.int .i64 (w))),(6,(.ptr 0 0 0)),(7,(.ptr 1 0 0)),(8,(.ptr 2 0 0)),(9,(.bool false)),(24,(.bool false)),(98,(.str []))] (by kernel_rfl) ?_
   refine Wl.bn0 2 3 [(4,(.str []))] (hp [.row 0 51 3 0 (some 1) [(.agg [.nilp,.nils,(.int .i64 (col))])],.row 0 54 1 0 (some 1) [(.sl 3 0 0 0 none)],.row 0 57 6 0 (some 1) [(.agg [(.int .i64 0),(.str []),(.int .i64 0),.nils,(.bool false),(.int .i64 0)])],.row 0 57 6 0 none []]) ?_
   refine Wl.dn 3 (Wc.ret ?_)
   refine retX.mk (.str []) ⟨rfl,rfl⟩ (by kernel_rfl) ?_
   rw [← hall]; rfl
  | cons c l =>
   let v1:Obj:=.row 0 54 1 0 (some 1) [.sl 3 0 0 0 none]
   let v2:Obj:=.row 0 57 6 0 (some 1) [curV none]
   change Wc Tryd.prog EU _ ((base 15 99).on [(5,.int .i64 w),(6,.ptr 0 0 0),(7,.ptr 1 0 0),(8,.ptr 2 0 0),(9,.bool false)]) (hp [.row 0 51 3 0 (some 1) [.agg [.ptr 0 0 0,.sl 4 0 0 (c :: l).length none,.int .i64 col]],v1,v2,.row 0 57 6 0 none [],.row 0 5 1 0 none ((c :: l).map bV)]) _ _ _
   have hne:c :: l ≠ []:=by simp
   generalize c :: l = o at *
   have cs:=cStrS (h:=(hp [.row 0 51 3 0 (some 1) [.agg [.ptr 0 0 0,.sl 4 0 0 o.length none,.int .i64 col]],.row 0 54 1 0 (some 1) [.sl 3 0 0 0 none],.row 0 57 6 0 (some 1) [curV none],.row 0 57 6 0 none [],.row 0 5 1 0 none (o.map bV)])) (r:=0) (rb:=4) (ver:=0) (s:=o) (by kernel_rfl) hne (by kernel_rfl) (by omega)
   change Cs _ _ _ _ _ _ (hp [.row 0 51 3 0 (some 1) [.agg [.ptr 0 0 0,.sl 4 0 0 o.length none,.int .i64 col]],.row 0 54 1 0 (some 1) [.sl 3 0 0 0 none],.row 0 57 6 0 (some 1) [curV none],.row 0 57 6 0 none [],.row 0 5 1 (Nat.max 0 o.length) none (o.map bV)]) at cs
   refine Wc.seq (Wc.seq (Wc.wn0 [(5,(.int .i64 (w))),(6,(.ptr 0 0 0)),(7,(.ptr 1 0 0)),(8,(.ptr 2 0 0)),(9,(.bool false)),(24,(.bool false))] (hp [.row 0 51 3 0 (some 1) [(.agg [(.ptr 0 0 0),(.sl 4 0 0 (List.length o) none),(.int .i64 (col))])],.row 0 54 1 0 (some 1) [(.sl 3 0 0 0 none)],.row 0 57 6 0 (some 1) [(.agg [(.int .i64 0),(.str []),(.int .i64 0),.nils,(.bool false),(.int .i64 0)])],.row 0 57 6 0 none [],.row 0 5 1 0 none (List.map bV o)]) ?_))
   refine Wc.cf (Wc.exit (blockX.here (Wc.seq (Wc.enter (Wl.b0 0 1 [(97,(.ptr 0 0 0))] ?_)))))
   refine Wl.s 1 [(98,(.str o))] (@cs) ?_
   refine Wl.b0 2 3 [(4,(.str o))] ?_
   refine Wl.dn 3 (Wc.ret ?_)
   refine retX.mk (.str o) ⟨rfl,rfl⟩ (by kernel_rfl) ?_
   rw [← hall]; rfl
 | some t =>
  have ht:okL t:=hQ.ok t (by simp [layT])
  have hrk:∀ u,u ∈ r → okL u:=fun u hu => hQ.ok u (by simp [layT,hu])
  have hsum:szD t.d + sumT r ≤ 2000:=by have:=hQ.sum; change sumT (t :: r) ≤ 2000 at this; rwa [sumT_cons] at this
  have hcol:0 ≤ col ∧ col + (szD t.d + sumT r:Nat) ≤ 3000:=by have:=hQ.hcol; change 0 ≤ col ∧ col + (sumT (t :: r):Nat) ≤ 3000 at this; rwa [sumT_cons] at this
  have hout:out.length + 400 * (szD t.d + sumT r) ≤ 1000000:=by have:=hQ.hout; change out.length + 400 * sumT (t :: r) ≤ 1000000 at this; rwa [sumT_cons] at this
  have hall:out ++ layS w (t :: r) col = layS w [⟨d,false,0⟩] 0:=hQ.all
  have hrl:=sumT_len r
  have hQ:LayQ w (layS w [⟨d,false,0⟩] 0) (t :: r) out col:=hQ
  obtain ⟨R,hR⟩:∃ R,R = layS w [⟨d,false,0⟩] 0:=⟨_,rfl⟩
  rw [← hR] at hQ hall ⊢
  obtain ⟨h0,hh0⟩:∃ h0,h0 = layH (encT t) r out col:=⟨_,rfl⟩
  change Wc Tryd.prog EU _ ((base 15 99).on [(5,.int .i64 w),(6,.ptr 0 0 0),(7,.ptr 1 0 0),(8,.ptr 2 0 0),(9,.bool true)]) (layH (encT t) r out col) _ _ _
  rw [← hh0]
  refine Wc.seq (Wc.seq (Wc.wn0 [(5,(.int .i64 (w))),(6,(.ptr 0 0 0)),(7,(.ptr 1 0 0)),(8,(.ptr 2 0 0)),(9,(.bool true)),(24,(.bool true))] h0 ?_))
  refine Wc.ct (Wc.skip ?_)
  refine Wc.seqEx (β:=List Th × List UInt8 × Int) (fun _ => (base 15 99).on [(5,.int .i64 w),(6,.ptr 0 0 0),(7,.ptr 1 0 0),(8,.ptr 2 0 0)]) (fun m => layH (encT t) m.1 m.2.1 m.2.2) (fun m => LayQ w R m.1 m.2.1 m.2.2 ∧ sizeT m.1 < sizeT (t :: r)) ?_ ?_
  ·change Wc Tryd.prog EU _ _ h0 (LayE w R t (sizeT (t :: r))) _ 0
   have hrt:=rest_lt t r
   have hrl2:r.length ≤ 1000000:=by omega
   have hrr:r.length = r.reverse.length:=by simp
   have htl:=szD_text t.d
   have htk:=szD_len t.d
   have htx:t.d.kind = 1 → t.d.text ≠ []:=fun q => by
    have:=ht.1
    rw [rightD] at this
    exact this.2.2.1.2 q
   have hnb:-1000000000 ≤ t.n + t.d.n ∧ t.n + t.d.n ≤ 1000000000:=okT_bound (okL_ok ht (by omega))
   have hnm:max t.n 0 ≤ 320:=by have:=ht.2; omega
   have hbl:(blanksOf (Int.toNat (max t.n 0))).length ≤ 320:=by rw [blanksOf_length]; omega
   have hkl1:(kidsT t t.flat).length ≤ 100000:=by rw [kidsT_len]; omega
   have hkl2:(kidsT t true).length ≤ 100000:=by rw [kidsT_len]; omega
   obtain ⟨e,hed⟩:∃ e,e = endS t.n:=⟨_,rfl⟩
   have hel:e.length ≤ 321:=by rw [hed]; unfold endS; rw [List.length_cons,blanksOf_length]; omega
   have hene:e ≠ []:=by rw [hed]; unfold endS; simp
   have he:[10] ++ blanksOf (Int.toNat (max t.n 0)) = e:=by rw [hed]; unfold endS; rw [show (max t.n 0).toNat = t.n.toNat by omega]; rfl
   cases out with
   | nil =>
    rw [show h0 = (hp [.row 0 51 3 0 (some 1) [.agg [.nilp,.nils,.int .i64 col]],.row 0 54 1 0 (some 1) [.sl 3 0 0 r.length none],.row 0 57 6 0 (some 1) [encT t],.row 0 57 6 0 none (r.reverse.map encT)]) from hh0]
    refine Wc.block (Wc.seq ?_)
    let v3:V:=(.agg [.nilp,.nils,(.int .i64 (col))])
    let v4:Obj:=.row 0 51 3 0 (some 1) [v3]
    let v5:V:=(.sl 3 0 0 (List.length r) none)
    let v6:Obj:=.row 0 54 1 0 (some 1) [v5]
    let v7:Obj:=.row 0 57 6 0 (some 1) [(encT t)]
    let v8:Obj:=.row 0 57 6 0 none (List.map encT (List.reverse r))
    let v9:Heap:=(hp [v4,v6,v7,v8])
    refine Wc.wn0 [(5,(.int .i64 (w))),(6,(.ptr 0 0 0)),(7,(.ptr 1 0 0)),(8,(.ptr 2 0 0)),(9,(.bool true)),(24,(.bool true)),(31,(.int .i64 (t.d.kind)))] v9 ?_
    refine Wc.block (Wc.seq (Wc.w0 [(37,(.bool (decide (t.d.kind = 1))))] ?_))
    refine Wc.cq (p:=t.d.kind = 1) (fun c1 => ?_) (fun c1 => ?_)
    ·refine Wc.weak (s':=(base 15 99).on [(5,.int .i64 w),(6,.ptr 0 0 0),(7,.ptr 1 0 0),(8,.ptr 2 0 0)]) (Le.on [5,6,7,8] (by kernel_rfl)) ?_
     have hne:=htx c1
     refine Wc.enter (Wl.b0 0 3 [(5,(.int .i64 (w))),(41,(.str (t.d.text)))] ?_)
     refine Wl.s 3 [] (@Go.AM.cSayN (Obj.row 0 54 1 0 (some 1) [V.sl 3 0 0 (List.length r) none]) (Obj.row 0 57 6 0 (some 1) [encT t]) (Obj.row 0 57 6 0 none (List.map encT (List.reverse r))) (col) (t.d.text) hne (by omega) (by omega)) ?_
     refine Wl.dn 4 ?_
     refine layEndB (L:=r) (o:=t.d.text) (c:=colS t.d.text col) (es:=r.reverse.map encT) (nL:=r.length) (bs:=t.d.text.map bV) (nO:=t.d.text.length) ?_ rfl rfl hne rfl rfl (by have:=hQ.text c1; rwa [List.nil_append] at this) hrt
     exact Vw.gk [(0,false),(1,false),(2,false),(3,true),(4,true)] [(0 = 0),(0 = 0),(0 = 0),(∀ (e:V),e ∈ List.map encT (List.reverse r) → groundL (ground 3) (V.cells e) = true),(∀ (e:V),e ∈ List.map bV t.d.text → groundL (ground 3) (V.cells e) = true),(0 = 0),(0 = 0),(0 = 0)] (.cons (by omega) (.cons (by omega) (.cons (by omega) (.cons (by exact gnd_map (fun _ => rfl) _) (.cons (by exact gnd_map (fun _ => rfl) _) (.cons (by omega) (.cons (by omega) (.cons (by omega) .nil))))))))
    refine Wc.seq (Wc.seq ?_)
    let v10:V:=(.bool (decide (t.d.kind = 2)))
    refine Wc.w0 [(43,v10)] ?_
    refine Wc.cq (p:=t.d.kind = 2) (fun c2 => ?_) (fun c2 => ?_)
    ·refine Wc.skip ?_
     refine Wc.cq (p:=t.d.kind = 2) (fun c3 => ?_) (fun c3 => absurd (show t.d.kind = 2 from c2) c3)
     refine Wc.block (Wc.seq (Wc.enter (Wl.b0 0 4 [(51,(.bool (!t.flat)))] ?_)))
     refine Wl.split (p:=(t.flat) = true) (fun c4 => ?_) (fun c4 => ?_)
     ·refine Wl.k 51 (.bool (!t.flat)) (.bool false) (by have e:=c4; simp only [e] <;> rfl) ?_
      refine Wl.b0 4 10 [(47,(.bool (decide (t.d.kind = 4))))] ?_
      refine Wl.dn 10 ?_
      refine Wc.cq (p:=t.d.kind = 4) (fun c5 => absurd c5 (show ¬ (t.d.kind = 4) from (by omega))) (fun c5 => ?_)
      refine Wc.seq (Wc.w0 [(63,v10)] ?_)
      refine Wc.cq (p:=t.d.kind = 2) (fun c6 => ?_) (fun c6 => absurd (show t.d.kind = 2 from c2) c6)
      refine Wc.enter (Wl.s 0 [] (@Go.AM.cSayN (Obj.row 0 54 1 0 (some 1) [V.sl 3 0 0 (List.length r) none]) (Obj.row 0 57 6 0 (some 1) [encT t]) (Obj.row 0 57 6 0 none (List.map encT (List.reverse r))) (col) ([32]) (by simp) (by simp) (by omega)) ?_)
      refine Wl.dn 1 ?_
      refine layEndB (L:=r) (o:=[32]) (c:=colS [32] col) (es:=r.reverse.map encT) (nL:=r.length) (bs:=[32].map bV) (nO:=1) ?_ rfl rfl (by simp) rfl rfl (hQ.blank c2 c4) hrt
      exact Vw.gk [(0,false),(1,false),(2,false),(3,true),(4,false)] [(0 = 0),(0 = 0),(0 = 0),(∀ (e:V),e ∈ List.map encT (List.reverse r) → groundL (ground 3) (V.cells e) = true),(0 = 0),(0 = 0),(0 = 0)] (.cons (by omega) (.cons (by omega) (.cons (by omega) (.cons (by exact gnd_map (fun _ => rfl) _) (.cons (by omega) (.cons (by omega) (.cons (by omega) .nil)))))))
     refine Wl.k 51 (.bool (!t.flat)) (.bool true) (by have e:=Bool.eq_false_iff.2 c4; simp only [e] <;> rfl) ?_
     refine Wl.b0 4 10 [(47,(.bool true))] ?_
     refine Wl.dn 10 (Wc.ct (Wc.weak (s':=(base 15 99).on [(5,.int .i64 w),(6,.ptr 0 0 0),(7,.ptr 1 0 0),(8,.ptr 2 0 0)]) (Le.on [5,6,7,8] (by kernel_rfl)) ?_))
     refine Wc.enter (Wl.bn0 0 3 [(59,(.int .i64 (max t.n 0)))] (hp [.row 0 51 3 0 (some 1) [.agg [.nilp,.nils,.int .i64 col]],.row 0 54 1 0 (some 1) [.sl 3 0 0 r.length none],.row 0 57 6 0 (some 1) [encT t],.row 0 57 6 0 none (r.reverse.map encT)]) ?_)
     refine Wl.c 3 [(60,(.str (blanksOf (Int.toNat (max t.n 0)))))] (@Go.AM.cRepeat (max t.n 0) (by omega) hnm) ?_
     let v11:V:=(.str ([10] ++ blanksOf (Int.toNat (max t.n 0))))
     refine Wl.bs 4 5 [(61,v11)] [(1:Nat) + (blanksOf (Int.toNat (max t.n 0))).length ≤ (1099511627776:Nat)] (.cons (by omega) .nil) ?_
     refine Wl.k 61 (.str ([10] ++ blanksOf (Int.toNat (max t.n 0)))) (.str e) (by rw [he]) ?_
     refine Wl.s 5 [(5,(.int .i64 (w)))] (@Go.AM.cSayN (Obj.row 0 54 1 0 (some 1) [V.sl 3 0 0 (List.length r) none]) (Obj.row 0 57 6 0 (some 1) [encT t]) (Obj.row 0 57 6 0 none (List.map encT (List.reverse r))) (col) (e) hene (by omega) (by omega)) ?_
     refine Wl.dn 6 ?_
     refine layEndB (L:=r) (o:=e) (c:=colS e col) (es:=r.reverse.map encT) (nL:=r.length) (bs:=e.map bV) (nO:=e.length) ?_ rfl rfl hene rfl rfl (by have:=hQ.line (.inl c2) (.inl (Bool.eq_false_iff.2 c4)); rwa [← hed,List.nil_append] at this) hrt
     exact Vw.gk [(0,false),(1,false),(2,false),(3,true),(4,true)] [(0 = 0),(0 = 0),(0 = 0),(∀ (e:V),e ∈ List.map encT (List.reverse r) → groundL (ground 3) (V.cells e) = true),(∀ (e_1:V),e_1 ∈ List.map bV e → groundL (ground (3:Nat)) (V.cells e_1) = true),(0 = 0),(0 = 0),(0 = 0)] (.cons (by omega) (.cons (by omega) (.cons (by omega) (.cons (by exact gnd_map (fun _ => rfl) _) (.cons (by exact gnd_map (fun _ => rfl) _) (.cons (by omega) (.cons (by omega) (.cons (by omega) .nil))))))))
    refine Wc.seq (Wc.w0 [(43,(.bool (decide (t.d.kind = 3))))] ?_)
    refine Wc.cq (p:=t.d.kind = 3) (fun c7 => ?_) (fun c7 => ?_)
    ·refine Wc.skip ?_
     refine Wc.cq (p:=t.d.kind = 3) (fun c8 => ?_) (fun c8 => absurd (show t.d.kind = 3 from c7) c8)
     refine Wc.block (Wc.seq (Wc.enter (Wl.b0 0 4 [(51,(.bool (!t.flat)))] ?_)))
     refine Wl.split (p:=(t.flat) = true) (fun c9 => ?_) (fun c9 => ?_)
     ·refine Wl.k 51 (.bool (!t.flat)) (.bool false) (by have e:=c9; simp only [e] <;> rfl) ?_
      refine Wl.b0 4 10 [(47,(.bool (decide (t.d.kind = 4))))] ?_
      refine Wl.dn 10 ?_
      refine Wc.cq (p:=t.d.kind = 4) (fun c10 => absurd c10 (show ¬ (t.d.kind = 4) from (by omega))) (fun c10 => ?_)
      refine Wc.seq (Wc.w0 [(63,v10)] ?_)
      refine Wc.cq (p:=t.d.kind = 2) (fun c11 => absurd c11 (show ¬ (t.d.kind = 2) from c2)) (fun c11 => ?_)
      refine Wc.skip ?_
      refine layEndN (L:=r) (c:=col) (es:=r.reverse.map encT) (nL:=r.length) ?_ rfl rfl (hQ.soft c7 c9) hrt
      exact Vw.gk [(0,false),(1,false),(2,false),(3,true)] [(0 = 0),(∀ (e:V),e ∈ List.map encT (List.reverse r) → groundL (ground 3) (V.cells e) = true),(0 = 0),(0 = 0),(0 = 0)] (.cons (by omega) (.cons (by exact gnd_map (fun _ => rfl) _) (.cons (by omega) (.cons (by omega) (.cons (by omega) .nil)))))
     refine Wl.k 51 (.bool (!t.flat)) (.bool true) (by have e:=Bool.eq_false_iff.2 c9; simp only [e] <;> rfl) ?_
     refine Wl.b0 4 10 [(47,(.bool true))] ?_
     refine Wl.dn 10 (Wc.ct (Wc.weak (s':=(base 15 99).on [(5,.int .i64 w),(6,.ptr 0 0 0),(7,.ptr 1 0 0),(8,.ptr 2 0 0)]) (Le.on [5,6,7,8] (by kernel_rfl)) ?_))
     refine Wc.enter (Wl.bn0 0 3 [(59,(.int .i64 (max t.n 0)))] (hp [.row 0 51 3 0 (some 1) [.agg [.nilp,.nils,.int .i64 col]],.row 0 54 1 0 (some 1) [.sl 3 0 0 r.length none],.row 0 57 6 0 (some 1) [encT t],.row 0 57 6 0 none (r.reverse.map encT)]) ?_)
     refine Wl.c 3 [(60,(.str (blanksOf (Int.toNat (max t.n 0)))))] (@Go.AM.cRepeat (max t.n 0) (by omega) hnm) ?_
     let v12:V:=(.str ([10] ++ blanksOf (Int.toNat (max t.n 0))))
     refine Wl.bs 4 5 [(61,v12)] [(1:Nat) + (blanksOf (Int.toNat (max t.n 0))).length ≤ (1099511627776:Nat)] (.cons (by omega) .nil) ?_
     refine Wl.k 61 (.str ([10] ++ blanksOf (Int.toNat (max t.n 0)))) (.str e) (by rw [he]) ?_
     refine Wl.s 5 [(5,(.int .i64 (w)))] (@Go.AM.cSayN (Obj.row 0 54 1 0 (some 1) [V.sl 3 0 0 (List.length r) none]) (Obj.row 0 57 6 0 (some 1) [encT t]) (Obj.row 0 57 6 0 none (List.map encT (List.reverse r))) (col) (e) hene (by omega) (by omega)) ?_
     refine Wl.dn 6 ?_
     refine layEndB (L:=r) (o:=e) (c:=colS e col) (es:=r.reverse.map encT) (nL:=r.length) (bs:=e.map bV) (nO:=e.length) ?_ rfl rfl hene rfl rfl (by have:=hQ.line (.inr (.inl c7)) (.inl (Bool.eq_false_iff.2 c9)); rwa [← hed,List.nil_append] at this) hrt
     exact Vw.gk [(0,false),(1,false),(2,false),(3,true),(4,true)] [(0 = 0),(0 = 0),(0 = 0),(∀ (e:V),e ∈ List.map encT (List.reverse r) → groundL (ground 3) (V.cells e) = true),(∀ (e_1:V),e_1 ∈ List.map bV e → groundL (ground (3:Nat)) (V.cells e_1) = true),(0 = 0),(0 = 0),(0 = 0)] (.cons (by omega) (.cons (by omega) (.cons (by omega) (.cons (by exact gnd_map (fun _ => rfl) _) (.cons (by exact gnd_map (fun _ => rfl) _) (.cons (by omega) (.cons (by omega) (.cons (by omega) .nil))))))))
    refine Wc.w0 [(43,(.bool (decide (t.d.kind = 4))))] ?_
    refine Wc.cq (p:=t.d.kind = 4) (fun c12 => ?_) (fun c12 => ?_)
    ·refine Wc.block (Wc.seq (Wc.enter (Wl.b0 0 4 [(51,(.bool (!t.flat)))] ?_)))
     refine Wl.split (p:=(t.flat) = true) (fun c13 => ?_) (fun c13 => ?_)
     ·refine Wl.k 51 (.bool (!t.flat)) (.bool false) (by have e:=c13; simp only [e] <;> rfl) ?_
      refine Wl.b0 4 10 [(47,(.bool (decide (t.d.kind = 4))))] ?_
      refine Wl.dn 10 ?_
      refine Wc.cq (p:=t.d.kind = 4) (fun c14 => ?_) (fun c14 => absurd (show t.d.kind = 4 from c12) c14)
      refine Wc.weak (s':=(base 15 99).on [(5,.int .i64 w),(6,.ptr 0 0 0),(7,.ptr 1 0 0),(8,.ptr 2 0 0)]) (Le.on [5,6,7,8] (by kernel_rfl)) ?_
      refine Wc.enter (Wl.bn0 0 3 [(59,(.int .i64 (max t.n 0)))] (hp [.row 0 51 3 0 (some 1) [.agg [.nilp,.nils,.int .i64 col]],.row 0 54 1 0 (some 1) [.sl 3 0 0 r.length none],.row 0 57 6 0 (some 1) [encT t],.row 0 57 6 0 none (r.reverse.map encT)]) ?_)
      refine Wl.c 3 [(60,(.str (blanksOf (Int.toNat (max t.n 0)))))] (@Go.AM.cRepeat (max t.n 0) (by omega) hnm) ?_
      let v13:V:=(.str ([10] ++ blanksOf (Int.toNat (max t.n 0))))
      refine Wl.bs 4 5 [(61,v13)] [(1:Nat) + (blanksOf (Int.toNat (max t.n 0))).length ≤ (1099511627776:Nat)] (.cons (by omega) .nil) ?_
      refine Wl.k 61 (.str ([10] ++ blanksOf (Int.toNat (max t.n 0)))) (.str e) (by rw [he]) ?_
      refine Wl.s 5 [(5,(.int .i64 (w)))] (@Go.AM.cSayN (Obj.row 0 54 1 0 (some 1) [V.sl 3 0 0 (List.length r) none]) (Obj.row 0 57 6 0 (some 1) [encT t]) (Obj.row 0 57 6 0 none (List.map encT (List.reverse r))) (col) (e) hene (by omega) (by omega)) ?_
      refine Wl.dn 6 ?_
      refine layEndB (L:=r) (o:=e) (c:=colS e col) (es:=r.reverse.map encT) (nL:=r.length) (bs:=e.map bV) (nO:=e.length) ?_ rfl rfl hene rfl rfl (by have:=hQ.line (.inr (.inr c12)) (.inr c12); rwa [← hed,List.nil_append] at this) hrt
      exact Vw.gk [(0,false),(1,false),(2,false),(3,true),(4,true)] [(0 = 0),(0 = 0),(0 = 0),(∀ (e:V),e ∈ List.map encT (List.reverse r) → groundL (ground 3) (V.cells e) = true),(∀ (e_1:V),e_1 ∈ List.map bV e → groundL (ground (3:Nat)) (V.cells e_1) = true),(0 = 0),(0 = 0),(0 = 0)] (.cons (by omega) (.cons (by omega) (.cons (by omega) (.cons (by exact gnd_map (fun _ => rfl) _) (.cons (by exact gnd_map (fun _ => rfl) _) (.cons (by omega) (.cons (by omega) (.cons (by omega) .nil))))))))
     refine Wl.k 51 (.bool (!t.flat)) (.bool true) (by have e:=Bool.eq_false_iff.2 c13; simp only [e] <;> rfl) ?_
     refine Wl.b0 4 10 [(47,(.bool true))] ?_
     refine Wl.dn 10 (Wc.ct (Wc.weak (s':=(base 15 99).on [(5,.int .i64 w),(6,.ptr 0 0 0),(7,.ptr 1 0 0),(8,.ptr 2 0 0)]) (Le.on [5,6,7,8] (by kernel_rfl)) ?_))
     refine Wc.enter (Wl.bn0 0 3 [(59,(.int .i64 (max t.n 0)))] (hp [.row 0 51 3 0 (some 1) [.agg [.nilp,.nils,.int .i64 col]],.row 0 54 1 0 (some 1) [.sl 3 0 0 r.length none],.row 0 57 6 0 (some 1) [encT t],.row 0 57 6 0 none (r.reverse.map encT)]) ?_)
     refine Wl.c 3 [(60,(.str (blanksOf (Int.toNat (max t.n 0)))))] (@Go.AM.cRepeat (max t.n 0) (by omega) hnm) ?_
     let v14:V:=(.str ([10] ++ blanksOf (Int.toNat (max t.n 0))))
     refine Wl.bs 4 5 [(61,v14)] [(1:Nat) + (blanksOf (Int.toNat (max t.n 0))).length ≤ (1099511627776:Nat)] (.cons (by omega) .nil) ?_
     refine Wl.k 61 (.str ([10] ++ blanksOf (Int.toNat (max t.n 0)))) (.str e) (by rw [he]) ?_
     refine Wl.s 5 [(5,(.int .i64 (w)))] (@Go.AM.cSayN (Obj.row 0 54 1 0 (some 1) [V.sl 3 0 0 (List.length r) none]) (Obj.row 0 57 6 0 (some 1) [encT t]) (Obj.row 0 57 6 0 none (List.map encT (List.reverse r))) (col) (e) hene (by omega) (by omega)) ?_
     refine Wl.dn 6 ?_
     refine layEndB (L:=r) (o:=e) (c:=colS e col) (es:=r.reverse.map encT) (nL:=r.length) (bs:=e.map bV) (nO:=e.length) ?_ rfl rfl hene rfl rfl (by have:=hQ.line (.inr (.inr c12)) (.inr c12); rwa [← hed,List.nil_append] at this) hrt
     exact Vw.gk [(0,false),(1,false),(2,false),(3,true),(4,true)] [(0 = 0),(0 = 0),(0 = 0),(∀ (e:V),e ∈ List.map encT (List.reverse r) → groundL (ground 3) (V.cells e) = true),(∀ (e_1:V),e_1 ∈ List.map bV e → groundL (ground (3:Nat)) (V.cells e_1) = true),(0 = 0),(0 = 0),(0 = 0)] (.cons (by omega) (.cons (by omega) (.cons (by omega) (.cons (by exact gnd_map (fun _ => rfl) _) (.cons (by exact gnd_map (fun _ => rfl) _) (.cons (by omega) (.cons (by omega) (.cons (by omega) .nil))))))))
    refine Wc.seq (Wc.w0 [(69,(.bool (decide (t.d.kind = 6))))] ?_)
    refine Wc.cq (p:=t.d.kind = 6) (fun c15 => ?_) (fun c15 => ?_)
    ·refine Wc.seq ?_
     by_cases hh:hardD t.d = true
     ·have hfl:Cp Tryd.prog EU 35 [encD t.d] (.tup [.str [],.bool false]):=by
       have:=cDocFlat ht.1 (show szD t.d ≤ 100000 by omega)
       rw [if_pos hh,hh] at this; exact this
      refine Wc.enter ?_
      let v15:V:=(.agg [(.int .i64 (t.d.kind)),(.str (t.d.text)),(.int .i64 (t.d.n)),(.osl 4 (esD t.d)),(.bool (t.flat)),(.int .i64 (t.n))])
      refine Wl.b0 0 1 [(71,v15)] ?_
      refine Wl.c 1 [(72,(.osl 6 (List.map encT (kidsT t true))))] (@Go.AM.cKids (t) (true) (by omega) hnb) ?_
      refine Wl.b0 2 3 [(10,(.osl 6 (List.map encT (kidsT t true))))] ?_
      refine Wl.dn 3 (Wc.seq (Wc.enter (Wl.b0 0 2 [(75,(.agg [(.int .i64 (t.d.kind)),(.str (t.d.text)),(.int .i64 (t.d.n)),(.osl 4 (esD t.d))]))] ?_)))
      refine Wl.c 2 [(76,(.tup [(.str []),(.bool false)]))] (@hfl) ?_
      refine Wl.b0 3 8 [(12,(.bool false))] ?_
      refine Wl.dn 8 (Wc.seq (Wc.w0 [(88,(.bool false))] ?_))
      refine Wc.cf (Wc.enter (Wl.b0 0 3 [(91,v15),(93,(.bool (t.flat)))] ?_))
      refine Wl.c 3 [(94,(.osl 6 (List.map encT (kidsT t t.flat))))] (@Go.AM.cKids (t) (t.flat) (by omega) hnb) ?_
      refine Wl.s 4 [] (@Go.AM.cPush4 (Obj.row 0 51 3 0 (some 1) [V.agg [V.nilp,V.nils,V.int .i64 col]]) (Obj.row 0 57 6 0 (some 1) [encT t]) (List.reverse r) (List.length r) (kidsT t t.flat) (hkl1) hrr hrl2) ?_
      refine Wl.dn 5 ?_
      refine layEndN (L:=kidsT t t.flat ++ r) (c:=col) (es:=r.reverse.map encT ++ (kidsT t t.flat).reverse.map encT) (nL:=r.length + (kidsT t t.flat).length) ?_ (by rw [List.length_append]; omega) (by simp) (hQ.push t.flat (lay_no c15 (by rw [hh]; rfl))) (push_lt t _ r)
      exact Vw.gk [(0,false),(1,false),(2,false),(3,true)] [(List.length (kidsT t t.flat) = List.length (kidsT t t.flat)),(∀ (e:V),e ∈ List.map encT (List.reverse r) ++ List.map encT (List.reverse (kidsT t t.flat)) → groundL (ground 3) (V.cells e) = true),(0 = 0),(0 = 0),(0 = 0)] (.cons (by omega) (.cons (by exact gnd_app (gnd_map (fun _ => rfl) _) (gnd_map (fun _ => rfl) _)) (.cons (by omega) (.cons (by omega) (.cons (by omega) .nil)))))
     have hfl:Cp Tryd.prog EU 35 [encD t.d] (.tup [.str (flatD t.d),.bool true]):=by
      have:=cDocFlat ht.1 (show szD t.d ≤ 100000 by omega)
      rw [if_neg hh,Bool.eq_false_iff.2 hh] at this; exact this
     have hfits:∀ b,fitsS w (kidsT t true ++ r) col = b → Came Tryd.prog EU 36 [.osl 6 ((kidsT t true).map encT),.sl 3 0 0 r.length none,.int .i64 col,.int .i64 w] (hp [.row 0 51 3 0 (some 1) [.agg [.nilp,.nils,.int .i64 col]],.row 0 54 1 0 (some 1) [.sl 3 0 0 r.length none],.row 0 57 6 0 (some 1) [encT t],.row 0 57 6 0 none (r.reverse.map encT)]) (.bool b) (hp [.row 0 51 3 0 (some 1) [.agg [.nilp,.nils,.int .i64 col]],.row 0 54 1 0 (some 1) [.sl 3 0 0 r.length none],.row 0 57 6 0 (some 1) [encT t],.row 0 57 6 0 none (r.reverse.map encT)]):=layFits (hp [.row 0 51 3 0 (some 1) [.agg [.nilp,.nils,.int .i64 col]],.row 0 54 1 0 (some 1) [.sl 3 0 0 r.length none],.row 0 57 6 0 (some 1) [encT t],.row 0 57 6 0 none (r.reverse.map encT)]) (fun u hu => hQ.ok u (by simp [hu])) ht hsum hcol.1 (by omega) hw2 (by kernel_rfl)
     cases hf:fitsS w (kidsT t true ++ r) col with
     | true =>
      have hfits:=hfits true hf
      refine Wc.enter (Wl.b0 0 1 [(71,(.agg [(.int .i64 (t.d.kind)),(.str (t.d.text)),(.int .i64 (t.d.n)),(.osl 4 (esD t.d)),(.bool (t.flat)),(.int .i64 (t.n))]))] ?_)
      let v16:V:=(.osl 6 (List.map encT (kidsT t true)))
      refine Wl.c 1 [(72,v16)] (@Go.AM.cKids (t) (true) (by omega) hnb) ?_
      refine Wl.b0 2 3 [(10,v16)] ?_
      refine Wl.dn 3 (Wc.seq (Wc.enter (Wl.b0 0 2 [(75,(.agg [(.int .i64 (t.d.kind)),(.str (t.d.text)),(.int .i64 (t.d.n)),(.osl 4 (esD t.d))]))] ?_)))
      refine Wl.c 2 [(76,(.tup [(.str (flatD t.d)),(.bool true)]))] (@hfl) ?_
      refine Wl.b0 3 8 [(12,(.bool true))] ?_
      refine Wl.dn 8 (Wc.seq (Wc.enter (Wl.b0 0 8 [(80,(.bool true)),(81,v16),(83,(.sl 3 0 0 (List.length r) none)),(85,(.int .i64 (col))),(86,(.int .i64 (w)))] ?_)))
      refine Wl.callC (b:=base 15 99) (h1:=(hp [.row 0 51 3 0 (some 1) [.agg [.nilp,.nils,.int .i64 col]],.row 0 54 1 0 (some 1) [.sl 3 0 0 r.length none],.row 0 57 6 0 (some 1) [encT t],.row 0 57 6 0 none (r.reverse.map encT)])) (h2:=(hp [.row 0 51 3 0 (some 1) [.agg [.nilp,.nils,.int .i64 col]],.row 0 54 1 0 (some 1) [.sl 3 0 0 r.length none],.row 0 57 6 0 (some 1) [encT t],.row 0 57 6 0 none (r.reverse.map encT)])) (v:=.bool true) (d:=some 87) 8 [5,6,7,8,10,80,87] [(5,.int .i64 w),(6,.ptr 0 0 0),(7,.ptr 1 0 0),(8,.ptr 2 0 0),(10,.osl 6 ((kidsT t true).map encT)),(80,.bool true),(87,.bool true)] hfits (by kernel_rfl) (by kernel_rfl) ?_
      refine Wl.bn0 9 10 [(5,(.int .i64 (w))),(6,(.ptr 0 0 0)),(7,(.ptr 1 0 0)),(8,(.ptr 2 0 0)),(10,v16),(88,(.bool true))] (hp [.row 0 51 3 0 (some 1) [(.agg [.nilp,.nils,(.int .i64 (col))])],.row 0 54 1 0 (some 1) [(.sl 3 0 0 (List.length r) none)],.row 0 57 6 0 (some 1) [(encT t)],.row 0 57 6 0 none (List.map encT (List.reverse r))]) ?_
      refine Wl.dn 10 (Wc.ct (Wc.enter (Wl.b0 0 1 [(89,v16)] ?_)))
      refine Wl.s 1 [] (@Go.AM.cPush4 (Obj.row 0 51 3 0 (some 1) [V.agg [V.nilp,V.nils,V.int .i64 col]]) (Obj.row 0 57 6 0 (some 1) [encT t]) (List.reverse r) (List.length r) (kidsT t true) hkl2 hrr hrl2) ?_
      refine Wl.dn 2 ?_
      refine layEndN (L:=kidsT t true ++ r) (c:=col) (es:=r.reverse.map encT ++ (kidsT t true).reverse.map encT) (nL:=r.length + (kidsT t true).length) ?_ (by rw [List.length_append]; omega) (by simp) (hQ.push true (lay_yes c15 (by rw [hf,Bool.eq_false_iff.2 hh]; rfl))) (push_lt t _ r)
      exact Vw.gk [(0,false),(1,false),(2,false),(3,true)] [(List.length (kidsT t true) = List.length (kidsT t true)),(∀ (e:V),e ∈ List.map encT (List.reverse r) ++ List.map encT (List.reverse (kidsT t true)) → groundL (ground 3) (V.cells e) = true),(0 = 0),(0 = 0),(0 = 0)] (.cons (by omega) (.cons (by exact gnd_app (gnd_map (fun _ => rfl) _) (gnd_map (fun _ => rfl) _)) (.cons (by omega) (.cons (by omega) (.cons (by omega) .nil)))))
     | false =>
      have hfits:=hfits false hf
      refine Wc.enter ?_
      let v17:V:=(.agg [(.int .i64 (t.d.kind)),(.str (t.d.text)),(.int .i64 (t.d.n)),(.osl 4 (esD t.d)),(.bool (t.flat)),(.int .i64 (t.n))])
      refine Wl.b0 0 1 [(71,v17)] ?_
      let v18:V:=(.osl 6 (List.map encT (kidsT t true)))
      refine Wl.c 1 [(72,v18)] (@Go.AM.cKids (t) (true) (by omega) hnb) ?_
      refine Wl.b0 2 3 [(10,v18)] ?_
      refine Wl.dn 3 (Wc.seq (Wc.enter (Wl.b0 0 2 [(75,(.agg [(.int .i64 (t.d.kind)),(.str (t.d.text)),(.int .i64 (t.d.n)),(.osl 4 (esD t.d))]))] ?_)))
      refine Wl.c 2 [(76,(.tup [(.str (flatD t.d)),(.bool true)]))] (@hfl) ?_
      refine Wl.b0 3 8 [(12,(.bool true))] ?_
      refine Wl.dn 8 (Wc.seq (Wc.enter (Wl.b0 0 8 [(80,(.bool true)),(81,v18),(83,(.sl 3 0 0 (List.length r) none)),(85,(.int .i64 (col))),(86,(.int .i64 (w)))] ?_)))
      refine Wl.callC (b:=base 15 99) (h1:=(hp [.row 0 51 3 0 (some 1) [.agg [.nilp,.nils,.int .i64 col]],.row 0 54 1 0 (some 1) [.sl 3 0 0 r.length none],.row 0 57 6 0 (some 1) [encT t],.row 0 57 6 0 none (r.reverse.map encT)])) (h2:=(hp [.row 0 51 3 0 (some 1) [.agg [.nilp,.nils,.int .i64 col]],.row 0 54 1 0 (some 1) [.sl 3 0 0 r.length none],.row 0 57 6 0 (some 1) [encT t],.row 0 57 6 0 none (r.reverse.map encT)])) (v:=.bool false) (d:=some 87) 8 [5,6,7,8,10,80,87] [(5,.int .i64 w),(6,.ptr 0 0 0),(7,.ptr 1 0 0),(8,.ptr 2 0 0),(10,.osl 6 ((kidsT t true).map encT)),(80,.bool true),(87,.bool false)] hfits (by kernel_rfl) (by kernel_rfl) ?_
      refine Wl.bn0 9 10 [(5,(.int .i64 (w))),(6,(.ptr 0 0 0)),(7,(.ptr 1 0 0)),(8,(.ptr 2 0 0)),(10,v18),(88,(.bool false))] (hp [.row 0 51 3 0 (some 1) [(.agg [.nilp,.nils,(.int .i64 (col))])],.row 0 54 1 0 (some 1) [(.sl 3 0 0 (List.length r) none)],.row 0 57 6 0 (some 1) [(encT t)],.row 0 57 6 0 none (List.map encT (List.reverse r))]) ?_
      refine Wl.dn 10 (Wc.cf (Wc.enter (Wl.b0 0 3 [(91,v17),(93,(.bool (t.flat)))] ?_)))
      refine Wl.c 3 [(94,(.osl 6 (List.map encT (kidsT t t.flat))))] (@Go.AM.cKids (t) (t.flat) (by omega) hnb) ?_
      refine Wl.s 4 [] (@Go.AM.cPush4 (Obj.row 0 51 3 0 (some 1) [V.agg [V.nilp,V.nils,V.int .i64 col]]) (Obj.row 0 57 6 0 (some 1) [encT t]) (List.reverse r) (List.length r) (kidsT t t.flat) hkl1 hrr hrl2) ?_
      refine Wl.dn 5 ?_
      refine layEndN (L:=kidsT t t.flat ++ r) (c:=col) (es:=r.reverse.map encT ++ (kidsT t t.flat).reverse.map encT) (nL:=r.length + (kidsT t t.flat).length) ?_ (by rw [List.length_append]; omega) (by simp) (hQ.push t.flat (lay_no c15 (by rw [hf]; simp))) (push_lt t _ r)
      exact Vw.gk [(0,false),(1,false),(2,false),(3,true)] [(List.length (kidsT t t.flat) = List.length (kidsT t t.flat)),(∀ (e:V),e ∈ List.map encT (List.reverse r) ++ List.map encT (List.reverse (kidsT t t.flat)) → groundL (ground 3) (V.cells e) = true),(0 = 0),(0 = 0),(0 = 0)] (.cons (by omega) (.cons (by exact gnd_app (gnd_map (fun _ => rfl) _) (gnd_map (fun _ => rfl) _)) (.cons (by omega) (.cons (by omega) (.cons (by omega) .nil)))))
    refine Wc.weak (s':=(base 15 99).on [(5,.int .i64 w),(6,.ptr 0 0 0),(7,.ptr 1 0 0),(8,.ptr 2 0 0)]) (Le.on [5,6,7,8] (by kernel_rfl)) ?_
    refine Wc.enter (Wl.b0 0 3 [(5,(.int .i64 (w))),(32,(.agg [(.int .i64 (t.d.kind)),(.str (t.d.text)),(.int .i64 (t.d.n)),(.osl 4 (esD t.d)),(.bool (t.flat)),(.int .i64 (t.n))])),(34,(.bool (t.flat)))] ?_)
    refine Wl.c 3 [(35,(.osl 6 (List.map encT (kidsT t t.flat))))] (@Go.AM.cKids (t) (t.flat) (by omega) hnb) ?_
    refine Wl.s 4 [] (@Go.AM.cPush4 (Obj.row 0 51 3 0 (some 1) [V.agg [V.nilp,V.nils,V.int .i64 col]]) (Obj.row 0 57 6 0 (some 1) [encT t]) (List.reverse r) (List.length r) (kidsT t t.flat) (hkl1) hrr hrl2) ?_
    refine Wl.dn 5 ?_
    refine layEndN (L:=kidsT t t.flat ++ r) (c:=col) (es:=r.reverse.map encT ++ (kidsT t t.flat).reverse.map encT) (nL:=r.length + (kidsT t t.flat).length) ?_ (by rw [List.length_append]; omega) (by simp) (hQ.push t.flat (lay_other c1 (by omega) c15)) (push_lt t _ r)
    exact Vw.gk [(0,false),(1,false),(2,false),(3,true)] [(List.length (kidsT t t.flat) = List.length (kidsT t t.flat)),(∀ (e:V),e ∈ List.map encT (List.reverse r) ++ List.map encT (List.reverse (kidsT t t.flat)) → groundL (ground 3) (V.cells e) = true),(0 = 0),(0 = 0),(0 = 0)] (.cons (by omega) (.cons (by exact gnd_app (gnd_map (fun _ => rfl) _) (gnd_map (fun _ => rfl) _)) (.cons (by omega) (.cons (by omega) (.cons (by omega) .nil)))))
   | cons c l =>
    have hne0:c :: l ≠ []:=by simp
    rw [show h0 = (hp [.row 0 51 3 0 (some 1) [.agg [.ptr 0 0 0,.sl 4 0 0 (c :: l).length none,.int .i64 col]],.row 0 54 1 0 (some 1) [.sl 3 0 0 r.length none],.row 0 57 6 0 (some 1) [encT t],.row 0 57 6 0 none (r.reverse.map encT),.row 0 5 1 0 none ((c :: l).map bV)]) from hh0]
    generalize c :: l = o at *
    refine Wc.block (Wc.seq ?_)
    let v19:V:=(.sl 4 0 0 (List.length o) none)
    let v20:V:=(.agg [(.ptr 0 0 0),v19,(.int .i64 (col))])
    let v21:Obj:=.row 0 51 3 0 (some 1) [v20]
    let v22:V:=(.sl 3 0 0 (List.length r) none)
    let v23:Obj:=.row 0 54 1 0 (some 1) [v22]
    let v24:Obj:=.row 0 57 6 0 (some 1) [(encT t)]
    let v25:Obj:=.row 0 57 6 0 none (List.map encT (List.reverse r))
    let v26:Obj:=.row 0 5 1 0 none (List.map bV o)
    let v27:Heap:=(hp [v21,v23,v24,v25,v26])
    refine Wc.wn0 [(5,(.int .i64 (w))),(6,(.ptr 0 0 0)),(7,(.ptr 1 0 0)),(8,(.ptr 2 0 0)),(9,(.bool true)),(24,(.bool true)),(31,(.int .i64 (t.d.kind)))] v27 ?_
    refine Wc.block (Wc.seq (Wc.w0 [(37,(.bool (decide (t.d.kind = 1))))] ?_))
    refine Wc.cq (p:=t.d.kind = 1) (fun c1 => ?_) (fun c1 => ?_)
    ·refine Wc.weak (s':=(base 15 99).on [(5,.int .i64 w),(6,.ptr 0 0 0),(7,.ptr 1 0 0),(8,.ptr 2 0 0)]) (Le.on [5,6,7,8] (by kernel_rfl)) ?_
     have hne:=htx c1
     refine Wc.enter (Wl.b0 0 3 [(5,(.int .i64 (w))),(41,(.str (t.d.text)))] ?_)
     refine Wl.s 3 [] (@Go.AM.cSayB (Obj.row 0 54 1 0 (some 1) [V.sl 3 0 0 (List.length r) none]) (Obj.row 0 57 6 0 (some 1) [encT t]) (Obj.row 0 57 6 0 none (List.map encT (List.reverse r))) (col) (List.length o) (o) (t.d.text) (by omega) hne (by omega) (by omega) (by omega)) ?_
     refine Wl.dn 4 ?_
     refine layEndB (L:=r) (o:=o ++ t.d.text) (c:=colS t.d.text col) (es:=r.reverse.map encT) (nL:=r.length) (bs:=o.map bV ++ t.d.text.map bV) (nO:=o.length + t.d.text.length) ?_ (by simp) (by rw [List.map_append]) (by simp [hne0]) rfl rfl (hQ.text c1) hrt
     exact Vw.gk [(0,false),(1,false),(2,false),(3,true),(4,true)] [(0 = 0),(1 = 1),(0 = 0),(∀ (e:V),e ∈ List.map encT (List.reverse r) → groundL (ground 3) (V.cells e) = true),(∀ (e:V),e ∈ List.map bV o ++ List.map bV t.d.text → groundL (ground 3) (V.cells e) = true),(0 = 0),(0 = 0),(0 = 0)] (.cons (by omega) (.cons (by omega) (.cons (by omega) (.cons (by exact gnd_map (fun _ => rfl) _) (.cons (by exact gnd_app (gnd_map (fun _ => rfl) _) (gnd_map (fun _ => rfl) _)) (.cons (by omega) (.cons (by omega) (.cons (by omega) .nil))))))))
    refine Wc.seq (Wc.seq ?_)
    let v28:V:=(.bool (decide (t.d.kind = 2)))
    refine Wc.w0 [(43,v28)] ?_
    refine Wc.cq (p:=t.d.kind = 2) (fun c2 => ?_) (fun c2 => ?_)
    ·refine Wc.skip ?_
     refine Wc.cq (p:=t.d.kind = 2) (fun c3 => ?_) (fun c3 => absurd (show t.d.kind = 2 from c2) c3)
     refine Wc.block (Wc.seq (Wc.enter (Wl.b0 0 4 [(51,(.bool (!t.flat)))] ?_)))
     refine Wl.split (p:=(t.flat) = true) (fun c4 => ?_) (fun c4 => ?_)
     ·refine Wl.k 51 (.bool (!t.flat)) (.bool false) (by have e:=c4; simp only [e] <;> rfl) ?_
      refine Wl.b0 4 10 [(47,(.bool (decide (t.d.kind = 4))))] ?_
      refine Wl.dn 10 ?_
      refine Wc.cq (p:=t.d.kind = 4) (fun c5 => absurd c5 (show ¬ (t.d.kind = 4) from (by omega))) (fun c5 => ?_)
      refine Wc.seq (Wc.w0 [(63,v28)] ?_)
      refine Wc.cq (p:=t.d.kind = 2) (fun c6 => ?_) (fun c6 => absurd (show t.d.kind = 2 from c2) c6)
      refine Wc.enter (Wl.s 0 [] (@Go.AM.cSayB (Obj.row 0 54 1 0 (some 1) [V.sl 3 0 0 (List.length r) none]) (Obj.row 0 57 6 0 (some 1) [encT t]) (Obj.row 0 57 6 0 none (List.map encT (List.reverse r))) (col) (List.length o) (o) ([32]) (by omega) (by simp) (by simp) (by omega) (by omega)) ?_)
      refine Wl.dn 1 ?_
      refine layEndB (L:=r) (o:=o ++ [32]) (c:=colS [32] col) (es:=r.reverse.map encT) (nL:=r.length) (bs:=o.map bV ++ [32].map bV) (nO:=o.length + [32].length) ?_ (by simp) (by rw [List.map_append]) (by simp [hne0]) rfl rfl (hQ.blank c2 c4) hrt
      exact Vw.gk [(0,false),(1,false),(2,false),(3,true),(4,true)] [(0 = 0),(1 = 1),(0 = 0),(∀ (e:V),e ∈ List.map encT (List.reverse r) → groundL (ground 3) (V.cells e) = true),(∀ (e:V),e ∈ List.map bV o ++ List.map bV [(32:UInt8)] → groundL (ground 3) (V.cells e) = true),(0 = 0),(0 = 0),(0 = 0)] (.cons (by omega) (.cons (by omega) (.cons (by omega) (.cons (by exact gnd_map (fun _ => rfl) _) (.cons (by exact gnd_app (gnd_map (fun _ => rfl) _) (gnd_map (fun _ => rfl) _)) (.cons (by omega) (.cons (by omega) (.cons (by omega) .nil))))))))
     refine Wl.k 51 (.bool (!t.flat)) (.bool true) (by have e:=Bool.eq_false_iff.2 c4; simp only [e] <;> rfl) ?_
     refine Wl.b0 4 10 [(47,(.bool true))] ?_
     refine Wl.dn 10 (Wc.ct (Wc.weak (s':=(base 15 99).on [(5,.int .i64 w),(6,.ptr 0 0 0),(7,.ptr 1 0 0),(8,.ptr 2 0 0)]) (Le.on [5,6,7,8] (by kernel_rfl)) ?_))
     refine Wc.enter (Wl.bn0 0 3 [(59,(.int .i64 (max t.n 0)))] (hp [.row 0 51 3 0 (some 1) [.agg [.ptr 0 0 0,.sl 4 0 0 o.length none,.int .i64 col]],.row 0 54 1 0 (some 1) [.sl 3 0 0 r.length none],.row 0 57 6 0 (some 1) [encT t],.row 0 57 6 0 none (r.reverse.map encT),.row 0 5 1 0 none (o.map bV)]) ?_)
     refine Wl.c 3 [(60,(.str (blanksOf (Int.toNat (max t.n 0)))))] (@Go.AM.cRepeat (max t.n 0) (by omega) hnm) ?_
     let v29:V:=(.str ([10] ++ blanksOf (Int.toNat (max t.n 0))))
     refine Wl.bs 4 5 [(61,v29)] [(1:Nat) + (blanksOf (Int.toNat (max t.n 0))).length ≤ (1099511627776:Nat)] (.cons (by omega) .nil) ?_
     refine Wl.k 61 (.str ([10] ++ blanksOf (Int.toNat (max t.n 0)))) (.str e) (by rw [he]) ?_
     refine Wl.s 5 [(5,(.int .i64 (w)))] (@Go.AM.cSayB (Obj.row 0 54 1 0 (some 1) [V.sl 3 0 0 (List.length r) none]) (Obj.row 0 57 6 0 (some 1) [encT t]) (Obj.row 0 57 6 0 none (List.map encT (List.reverse r))) (col) (List.length o) (o) (e) (by omega) hene (by omega) (by omega) (by omega)) ?_
     refine Wl.dn 6 ?_
     refine layEndB (L:=r) (o:=o ++ e) (c:=colS e col) (es:=r.reverse.map encT) (nL:=r.length) (bs:=o.map bV ++ e.map bV) (nO:=o.length + e.length) ?_ (by simp) (by rw [List.map_append]) (by simp [hne0]) rfl rfl (by have:=hQ.line (.inl c2) (.inl (Bool.eq_false_iff.2 c4)); rwa [← hed] at this) hrt
     exact Vw.gk [(0,false),(1,false),(2,false),(3,true),(4,true)] [(0 = 0),(1 = 1),(0 = 0),(∀ (e:V),e ∈ List.map encT (List.reverse r) → groundL (ground 3) (V.cells e) = true),(∀ (e_1:V),e_1 ∈ List.map bV o ++ List.map bV e → groundL (ground (3:Nat)) (V.cells e_1) = true),(0 = 0),(0 = 0),(0 = 0)] (.cons (by omega) (.cons (by omega) (.cons (by omega) (.cons (by exact gnd_map (fun _ => rfl) _) (.cons (by exact gnd_app (gnd_map (fun _ => rfl) _) (gnd_map (fun _ => rfl) _)) (.cons (by omega) (.cons (by omega) (.cons (by omega) .nil))))))))
    refine Wc.seq (Wc.w0 [(43,(.bool (decide (t.d.kind = 3))))] ?_)
    refine Wc.cq (p:=t.d.kind = 3) (fun c7 => ?_) (fun c7 => ?_)
    ·refine Wc.skip ?_
     refine Wc.cq (p:=t.d.kind = 3) (fun c8 => ?_) (fun c8 => absurd (show t.d.kind = 3 from c7) c8)
     refine Wc.block (Wc.seq (Wc.enter (Wl.b0 0 4 [(51,(.bool (!t.flat)))] ?_)))
     refine Wl.split (p:=(t.flat) = true) (fun c9 => ?_) (fun c9 => ?_)
     ·refine Wl.k 51 (.bool (!t.flat)) (.bool false) (by have e:=c9; simp only [e] <;> rfl) ?_
      refine Wl.b0 4 10 [(47,(.bool (decide (t.d.kind = 4))))] ?_
      refine Wl.dn 10 ?_
      refine Wc.cq (p:=t.d.kind = 4) (fun c10 => absurd c10 (show ¬ (t.d.kind = 4) from (by omega))) (fun c10 => ?_)
      refine Wc.seq (Wc.w0 [(63,v28)] ?_)
      refine Wc.cq (p:=t.d.kind = 2) (fun c11 => absurd c11 (show ¬ (t.d.kind = 2) from c2)) (fun c11 => ?_)
      refine Wc.skip ?_
      refine layEndB (L:=r) (o:=o) (c:=col) (es:=r.reverse.map encT) (nL:=r.length) (bs:=o.map bV) (nO:=o.length) ?_ rfl rfl hne0 rfl rfl (hQ.soft c7 c9) hrt
      exact Vw.gk [(0,false),(1,false),(2,false),(3,true),(4,true)] [(0 = 0),(0 = 0),(0 = 0),(∀ (e:V),e ∈ List.map encT (List.reverse r) → groundL (ground 3) (V.cells e) = true),(∀ (e:V),e ∈ List.map bV o → groundL (ground 3) (V.cells e) = true),(0 = 0),(0 = 0),(0 = 0)] (.cons (by omega) (.cons (by omega) (.cons (by omega) (.cons (by exact gnd_map (fun _ => rfl) _) (.cons (by exact gnd_map (fun _ => rfl) _) (.cons (by omega) (.cons (by omega) (.cons (by omega) .nil))))))))
     refine Wl.k 51 (.bool (!t.flat)) (.bool true) (by have e:=Bool.eq_false_iff.2 c9; simp only [e] <;> rfl) ?_
     refine Wl.b0 4 10 [(47,(.bool true))] ?_
     refine Wl.dn 10 (Wc.ct (Wc.weak (s':=(base 15 99).on [(5,.int .i64 w),(6,.ptr 0 0 0),(7,.ptr 1 0 0),(8,.ptr 2 0 0)]) (Le.on [5,6,7,8] (by kernel_rfl)) ?_))
     refine Wc.enter (Wl.bn0 0 3 [(59,(.int .i64 (max t.n 0)))] (hp [.row 0 51 3 0 (some 1) [.agg [.ptr 0 0 0,.sl 4 0 0 o.length none,.int .i64 col]],.row 0 54 1 0 (some 1) [.sl 3 0 0 r.length none],.row 0 57 6 0 (some 1) [encT t],.row 0 57 6 0 none (r.reverse.map encT),.row 0 5 1 0 none (o.map bV)]) ?_)
     refine Wl.c 3 [(60,(.str (blanksOf (Int.toNat (max t.n 0)))))] (@Go.AM.cRepeat (max t.n 0) (by omega) hnm) ?_
     let v30:V:=(.str ([10] ++ blanksOf (Int.toNat (max t.n 0))))
     refine Wl.bs 4 5 [(61,v30)] [(1:Nat) + (blanksOf (Int.toNat (max t.n 0))).length ≤ (1099511627776:Nat)] (.cons (by omega) .nil) ?_
     refine Wl.k 61 (.str ([10] ++ blanksOf (Int.toNat (max t.n 0)))) (.str e) (by rw [he]) ?_
     refine Wl.s 5 [(5,(.int .i64 (w)))] (@Go.AM.cSayB (Obj.row 0 54 1 0 (some 1) [V.sl 3 0 0 (List.length r) none]) (Obj.row 0 57 6 0 (some 1) [encT t]) (Obj.row 0 57 6 0 none (List.map encT (List.reverse r))) (col) (List.length o) (o) (e) (by omega) hene (by omega) (by omega) (by omega)) ?_
     refine Wl.dn 6 ?_
     refine layEndB (L:=r) (o:=o ++ e) (c:=colS e col) (es:=r.reverse.map encT) (nL:=r.length) (bs:=o.map bV ++ e.map bV) (nO:=o.length + e.length) ?_ (by simp) (by rw [List.map_append]) (by simp [hne0]) rfl rfl (by have:=hQ.line (.inr (.inl c7)) (.inl (Bool.eq_false_iff.2 c9)); rwa [← hed] at this) hrt
     exact Vw.gk [(0,false),(1,false),(2,false),(3,true),(4,true)] [(0 = 0),(1 = 1),(0 = 0),(∀ (e:V),e ∈ List.map encT (List.reverse r) → groundL (ground 3) (V.cells e) = true),(∀ (e_1:V),e_1 ∈ List.map bV o ++ List.map bV e → groundL (ground (3:Nat)) (V.cells e_1) = true),(0 = 0),(0 = 0),(0 = 0)] (.cons (by omega) (.cons (by omega) (.cons (by omega) (.cons (by exact gnd_map (fun _ => rfl) _) (.cons (by exact gnd_app (gnd_map (fun _ => rfl) _) (gnd_map (fun _ => rfl) _)) (.cons (by omega) (.cons (by omega) (.cons (by omega) .nil))))))))
    refine Wc.w0 [(43,(.bool (decide (t.d.kind = 4))))] ?_
    refine Wc.cq (p:=t.d.kind = 4) (fun c12 => ?_) (fun c12 => ?_)
    ·refine Wc.block (Wc.seq (Wc.enter (Wl.b0 0 4 [(51,(.bool (!t.flat)))] ?_)))
     refine Wl.split (p:=(t.flat) = true) (fun c13 => ?_) (fun c13 => ?_)
     ·refine Wl.k 51 (.bool (!t.flat)) (.bool false) (by have e:=c13; simp only [e] <;> rfl) ?_
      refine Wl.b0 4 10 [(47,(.bool (decide (t.d.kind = 4))))] ?_
      refine Wl.dn 10 ?_
      refine Wc.cq (p:=t.d.kind = 4) (fun c14 => ?_) (fun c14 => absurd (show t.d.kind = 4 from c12) c14)
      refine Wc.weak (s':=(base 15 99).on [(5,.int .i64 w),(6,.ptr 0 0 0),(7,.ptr 1 0 0),(8,.ptr 2 0 0)]) (Le.on [5,6,7,8] (by kernel_rfl)) ?_
      refine Wc.enter (Wl.bn0 0 3 [(59,(.int .i64 (max t.n 0)))] (hp [.row 0 51 3 0 (some 1) [.agg [.ptr 0 0 0,.sl 4 0 0 o.length none,.int .i64 col]],.row 0 54 1 0 (some 1) [.sl 3 0 0 r.length none],.row 0 57 6 0 (some 1) [encT t],.row 0 57 6 0 none (r.reverse.map encT),.row 0 5 1 0 none (o.map bV)]) ?_)
      refine Wl.c 3 [(60,(.str (blanksOf (Int.toNat (max t.n 0)))))] (@Go.AM.cRepeat (max t.n 0) (by omega) hnm) ?_
      let v31:V:=(.str ([10] ++ blanksOf (Int.toNat (max t.n 0))))
      refine Wl.bs 4 5 [(61,v31)] [(1:Nat) + (blanksOf (Int.toNat (max t.n 0))).length ≤ (1099511627776:Nat)] (.cons (by omega) .nil) ?_
      refine Wl.k 61 (.str ([10] ++ blanksOf (Int.toNat (max t.n 0)))) (.str e) (by rw [he]) ?_
      refine Wl.s 5 [(5,(.int .i64 (w)))] (@Go.AM.cSayB (Obj.row 0 54 1 0 (some 1) [V.sl 3 0 0 (List.length r) none]) (Obj.row 0 57 6 0 (some 1) [encT t]) (Obj.row 0 57 6 0 none (List.map encT (List.reverse r))) (col) (List.length o) (o) (e) (by omega) hene (by omega) (by omega) (by omega)) ?_
      refine Wl.dn 6 ?_
      refine layEndB (L:=r) (o:=o ++ e) (c:=colS e col) (es:=r.reverse.map encT) (nL:=r.length) (bs:=o.map bV ++ e.map bV) (nO:=o.length + e.length) ?_ (by simp) (by rw [List.map_append]) (by simp [hne0]) rfl rfl (by have:=hQ.line (.inr (.inr c12)) (.inr c12); rwa [← hed] at this) hrt
      exact Vw.gk [(0,false),(1,false),(2,false),(3,true),(4,true)] [(0 = 0),(1 = 1),(0 = 0),(∀ (e:V),e ∈ List.map encT (List.reverse r) → groundL (ground 3) (V.cells e) = true),(∀ (e_1:V),e_1 ∈ List.map bV o ++ List.map bV e → groundL (ground (3:Nat)) (V.cells e_1) = true),(0 = 0),(0 = 0),(0 = 0)] (.cons (by omega) (.cons (by omega) (.cons (by omega) (.cons (by exact gnd_map (fun _ => rfl) _) (.cons (by exact gnd_app (gnd_map (fun _ => rfl) _) (gnd_map (fun _ => rfl) _)) (.cons (by omega) (.cons (by omega) (.cons (by omega) .nil))))))))
     refine Wl.k 51 (.bool (!t.flat)) (.bool true) (by have e:=Bool.eq_false_iff.2 c13; simp only [e] <;> rfl) ?_
     refine Wl.b0 4 10 [(47,(.bool true))] ?_
     refine Wl.dn 10 (Wc.ct (Wc.weak (s':=(base 15 99).on [(5,.int .i64 w),(6,.ptr 0 0 0),(7,.ptr 1 0 0),(8,.ptr 2 0 0)]) (Le.on [5,6,7,8] (by kernel_rfl)) ?_))
     refine Wc.enter (Wl.bn0 0 3 [(59,(.int .i64 (max t.n 0)))] (hp [.row 0 51 3 0 (some 1) [.agg [.ptr 0 0 0,.sl 4 0 0 o.length none,.int .i64 col]],.row 0 54 1 0 (some 1) [.sl 3 0 0 r.length none],.row 0 57 6 0 (some 1) [encT t],.row 0 57 6 0 none (r.reverse.map encT),.row 0 5 1 0 none (o.map bV)]) ?_)
     refine Wl.c 3 [(60,(.str (blanksOf (Int.toNat (max t.n 0)))))] (@Go.AM.cRepeat (max t.n 0) (by omega) hnm) ?_
     let v32:V:=(.str ([10] ++ blanksOf (Int.toNat (max t.n 0))))
     refine Wl.bs 4 5 [(61,v32)] [(1:Nat) + (blanksOf (Int.toNat (max t.n 0))).length ≤ (1099511627776:Nat)] (.cons (by omega) .nil) ?_
     refine Wl.k 61 (.str ([10] ++ blanksOf (Int.toNat (max t.n 0)))) (.str e) (by rw [he]) ?_
     refine Wl.s 5 [(5,(.int .i64 (w)))] (@Go.AM.cSayB (Obj.row 0 54 1 0 (some 1) [V.sl 3 0 0 (List.length r) none]) (Obj.row 0 57 6 0 (some 1) [encT t]) (Obj.row 0 57 6 0 none (List.map encT (List.reverse r))) (col) (List.length o) (o) (e) (by omega) hene (by omega) (by omega) (by omega)) ?_
     refine Wl.dn 6 ?_
     refine layEndB (L:=r) (o:=o ++ e) (c:=colS e col) (es:=r.reverse.map encT) (nL:=r.length) (bs:=o.map bV ++ e.map bV) (nO:=o.length + e.length) ?_ (by simp) (by rw [List.map_append]) (by simp [hne0]) rfl rfl (by have:=hQ.line (.inr (.inr c12)) (.inr c12); rwa [← hed] at this) hrt
     exact Vw.gk [(0,false),(1,false),(2,false),(3,true),(4,true)] [(0 = 0),(1 = 1),(0 = 0),(∀ (e:V),e ∈ List.map encT (List.reverse r) → groundL (ground 3) (V.cells e) = true),(∀ (e_1:V),e_1 ∈ List.map bV o ++ List.map bV e → groundL (ground (3:Nat)) (V.cells e_1) = true),(0 = 0),(0 = 0),(0 = 0)] (.cons (by omega) (.cons (by omega) (.cons (by omega) (.cons (by exact gnd_map (fun _ => rfl) _) (.cons (by exact gnd_app (gnd_map (fun _ => rfl) _) (gnd_map (fun _ => rfl) _)) (.cons (by omega) (.cons (by omega) (.cons (by omega) .nil))))))))
    refine Wc.seq (Wc.w0 [(69,(.bool (decide (t.d.kind = 6))))] ?_)
    refine Wc.cq (p:=t.d.kind = 6) (fun c15 => ?_) (fun c15 => ?_)
    ·refine Wc.seq ?_
     by_cases hh:hardD t.d = true
     ·have hfl:Cp Tryd.prog EU 35 [encD t.d] (.tup [.str [],.bool false]):=by
       have:=cDocFlat ht.1 (show szD t.d ≤ 100000 by omega)
       rw [if_pos hh,hh] at this; exact this
      refine Wc.enter ?_
      let v33:V:=(.agg [(.int .i64 (t.d.kind)),(.str (t.d.text)),(.int .i64 (t.d.n)),(.osl 4 (esD t.d)),(.bool (t.flat)),(.int .i64 (t.n))])
      refine Wl.b0 0 1 [(71,v33)] ?_
      refine Wl.c 1 [(72,(.osl 6 (List.map encT (kidsT t true))))] (@Go.AM.cKids (t) (true) (by omega) hnb) ?_
      refine Wl.b0 2 3 [(10,(.osl 6 (List.map encT (kidsT t true))))] ?_
      refine Wl.dn 3 (Wc.seq (Wc.enter (Wl.b0 0 2 [(75,(.agg [(.int .i64 (t.d.kind)),(.str (t.d.text)),(.int .i64 (t.d.n)),(.osl 4 (esD t.d))]))] ?_)))
      refine Wl.c 2 [(76,(.tup [(.str []),(.bool false)]))] (@hfl) ?_
      refine Wl.b0 3 8 [(12,(.bool false))] ?_
      refine Wl.dn 8 (Wc.seq (Wc.w0 [(88,(.bool false))] ?_))
      refine Wc.cf (Wc.enter (Wl.b0 0 3 [(91,v33),(93,(.bool (t.flat)))] ?_))
      refine Wl.c 3 [(94,(.osl 6 (List.map encT (kidsT t t.flat))))] (@Go.AM.cKids (t) (t.flat) (by omega) hnb) ?_
      refine Wl.s 4 [] (@Go.AM.cPush5 (Obj.row 0 51 3 0 (some 1) [V.agg [V.ptr 0 0 0,V.sl 4 0 0 (List.length o) none,V.int .i64 col]]) (Obj.row 0 57 6 0 (some 1) [encT t]) (Obj.row 0 5 1 0 none (List.map bV o)) (List.reverse r) (List.length r) (kidsT t t.flat) hkl1 hrr hrl2) ?_
      refine Wl.dn 5 ?_
      refine layEndB (L:=kidsT t t.flat ++ r) (o:=o) (c:=col) (es:=r.reverse.map encT ++ (kidsT t t.flat).reverse.map encT) (nL:=r.length + (kidsT t t.flat).length) (bs:=o.map bV) (nO:=o.length) ?_ rfl rfl hne0 (by rw [List.length_append]; omega) (by simp) (hQ.push t.flat (lay_no c15 (by rw [hh]; rfl))) (push_lt t _ r)
      exact Vw.gk [(0,false),(1,false),(2,false),(3,true),(4,true)] [(0 = 0),(0 = 0),(List.length (kidsT t t.flat) = List.length (kidsT t t.flat)),(∀ (e:V),e ∈ List.map encT (List.reverse r) ++ List.map encT (List.reverse (kidsT t t.flat)) → groundL (ground 3) (V.cells e) = true),(∀ (e:V),e ∈ List.map bV o → groundL (ground 3) (V.cells e) = true),(0 = 0),(0 = 0),(0 = 0)] (.cons (by omega) (.cons (by omega) (.cons (by omega) (.cons (by exact gnd_app (gnd_map (fun _ => rfl) _) (gnd_map (fun _ => rfl) _)) (.cons (by exact gnd_map (fun _ => rfl) _) (.cons (by omega) (.cons (by omega) (.cons (by omega) .nil))))))))
     have hfl:Cp Tryd.prog EU 35 [encD t.d] (.tup [.str (flatD t.d),.bool true]):=by
      have:=cDocFlat ht.1 (show szD t.d ≤ 100000 by omega)
      rw [if_neg hh,Bool.eq_false_iff.2 hh] at this; exact this
     have hfits:∀ b,fitsS w (kidsT t true ++ r) col = b → Came Tryd.prog EU 36 [.osl 6 ((kidsT t true).map encT),.sl 3 0 0 r.length none,.int .i64 col,.int .i64 w] (hp [.row 0 51 3 0 (some 1) [.agg [.ptr 0 0 0,.sl 4 0 0 o.length none,.int .i64 col]],.row 0 54 1 0 (some 1) [.sl 3 0 0 r.length none],.row 0 57 6 0 (some 1) [encT t],.row 0 57 6 0 none (r.reverse.map encT),.row 0 5 1 0 none (o.map bV)]) (.bool b) (hp [.row 0 51 3 0 (some 1) [.agg [.ptr 0 0 0,.sl 4 0 0 o.length none,.int .i64 col]],.row 0 54 1 0 (some 1) [.sl 3 0 0 r.length none],.row 0 57 6 0 (some 1) [encT t],.row 0 57 6 0 none (r.reverse.map encT),.row 0 5 1 0 none (o.map bV)]):=layFits (hp [.row 0 51 3 0 (some 1) [.agg [.ptr 0 0 0,.sl 4 0 0 o.length none,.int .i64 col]],.row 0 54 1 0 (some 1) [.sl 3 0 0 r.length none],.row 0 57 6 0 (some 1) [encT t],.row 0 57 6 0 none (r.reverse.map encT),.row 0 5 1 0 none (o.map bV)]) (fun u hu => hQ.ok u (by simp [hu])) ht hsum hcol.1 (by omega) hw2 (by kernel_rfl)
     cases hf:fitsS w (kidsT t true ++ r) col with
     | true =>
      have hfits:=hfits true hf
      refine Wc.enter (Wl.b0 0 1 [(71,(.agg [(.int .i64 (t.d.kind)),(.str (t.d.text)),(.int .i64 (t.d.n)),(.osl 4 (esD t.d)),(.bool (t.flat)),(.int .i64 (t.n))]))] ?_)
      let v34:V:=(.osl 6 (List.map encT (kidsT t true)))
      refine Wl.c 1 [(72,v34)] (@Go.AM.cKids (t) (true) (by omega) hnb) ?_
      refine Wl.b0 2 3 [(10,v34)] ?_
      refine Wl.dn 3 (Wc.seq (Wc.enter (Wl.b0 0 2 [(75,(.agg [(.int .i64 (t.d.kind)),(.str (t.d.text)),(.int .i64 (t.d.n)),(.osl 4 (esD t.d))]))] ?_)))
      refine Wl.c 2 [(76,(.tup [(.str (flatD t.d)),(.bool true)]))] (@hfl) ?_
      refine Wl.b0 3 8 [(12,(.bool true))] ?_
      refine Wl.dn 8 (Wc.seq (Wc.enter (Wl.b0 0 8 [(80,(.bool true)),(81,v34),(83,(.sl 3 0 0 (List.length r) none)),(85,(.int .i64 (col))),(86,(.int .i64 (w)))] ?_)))
      refine Wl.callC (b:=base 15 99) (h1:=(hp [.row 0 51 3 0 (some 1) [.agg [.ptr 0 0 0,.sl 4 0 0 o.length none,.int .i64 col]],.row 0 54 1 0 (some 1) [.sl 3 0 0 r.length none],.row 0 57 6 0 (some 1) [encT t],.row 0 57 6 0 none (r.reverse.map encT),.row 0 5 1 0 none (o.map bV)])) (h2:=(hp [.row 0 51 3 0 (some 1) [.agg [.ptr 0 0 0,.sl 4 0 0 o.length none,.int .i64 col]],.row 0 54 1 0 (some 1) [.sl 3 0 0 r.length none],.row 0 57 6 0 (some 1) [encT t],.row 0 57 6 0 none (r.reverse.map encT),.row 0 5 1 0 none (o.map bV)])) (v:=.bool true) (d:=some 87) 8 [5,6,7,8,10,80,87] [(5,.int .i64 w),(6,.ptr 0 0 0),(7,.ptr 1 0 0),(8,.ptr 2 0 0),(10,.osl 6 ((kidsT t true).map encT)),(80,.bool true),(87,.bool true)] hfits (by kernel_rfl) (by kernel_rfl) ?_
      refine Wl.bn0 9 10 [(5,(.int .i64 (w))),(6,(.ptr 0 0 0)),(7,(.ptr 1 0 0)),(8,(.ptr 2 0 0)),(10,v34),(88,(.bool true))] (hp [.row 0 51 3 0 (some 1) [(.agg [(.ptr 0 0 0),(.sl 4 0 0 (List.length o) none),(.int .i64 (col))])],.row 0 54 1 0 (some 1) [(.sl 3 0 0 (List.length r) none)],.row 0 57 6 0 (some 1) [(encT t)],.row 0 57 6 0 none (List.map encT (List.reverse r)),.row 0 5 1 0 none (List.map bV o)]) ?_
      refine Wl.dn 10 (Wc.ct (Wc.enter (Wl.b0 0 1 [(89,v34)] ?_)))
      refine Wl.s 1 [] (@Go.AM.cPush5 (Obj.row 0 51 3 0 (some 1) [V.agg [V.ptr 0 0 0,V.sl 4 0 0 (List.length o) none,V.int .i64 col]]) (Obj.row 0 57 6 0 (some 1) [encT t]) (Obj.row 0 5 1 0 none (List.map bV o)) (List.reverse r) (List.length r) (kidsT t true) hkl2 hrr hrl2) ?_
      refine Wl.dn 2 ?_
      refine layEndB (L:=kidsT t true ++ r) (o:=o) (c:=col) (es:=r.reverse.map encT ++ (kidsT t true).reverse.map encT) (nL:=r.length + (kidsT t true).length) (bs:=o.map bV) (nO:=o.length) ?_ rfl rfl hne0 (by rw [List.length_append]; omega) (by simp) (hQ.push true (lay_yes c15 (by rw [hf,Bool.eq_false_iff.2 hh]; rfl))) (push_lt t _ r)
      exact Vw.gk [(0,false),(1,false),(2,false),(3,true),(4,true)] [(0 = 0),(0 = 0),(List.length (kidsT t true) = List.length (kidsT t true)),(∀ (e:V),e ∈ List.map encT (List.reverse r) ++ List.map encT (List.reverse (kidsT t true)) → groundL (ground 3) (V.cells e) = true),(∀ (e:V),e ∈ List.map bV o → groundL (ground 3) (V.cells e) = true),(0 = 0),(0 = 0),(0 = 0)] (.cons (by omega) (.cons (by omega) (.cons (by omega) (.cons (by exact gnd_app (gnd_map (fun _ => rfl) _) (gnd_map (fun _ => rfl) _)) (.cons (by exact gnd_map (fun _ => rfl) _) (.cons (by omega) (.cons (by omega) (.cons (by omega) .nil))))))))
     | false =>
      have hfits:=hfits false hf
      refine Wc.enter ?_
      let v35:V:=(.agg [(.int .i64 (t.d.kind)),(.str (t.d.text)),(.int .i64 (t.d.n)),(.osl 4 (esD t.d)),(.bool (t.flat)),(.int .i64 (t.n))])
      refine Wl.b0 0 1 [(71,v35)] ?_
      let v36:V:=(.osl 6 (List.map encT (kidsT t true)))
      refine Wl.c 1 [(72,v36)] (@Go.AM.cKids (t) (true) (by omega) hnb) ?_
      refine Wl.b0 2 3 [(10,v36)] ?_
      refine Wl.dn 3 (Wc.seq (Wc.enter (Wl.b0 0 2 [(75,(.agg [(.int .i64 (t.d.kind)),(.str (t.d.text)),(.int .i64 (t.d.n)),(.osl 4 (esD t.d))]))] ?_)))
      refine Wl.c 2 [(76,(.tup [(.str (flatD t.d)),(.bool true)]))] (@hfl) ?_
      refine Wl.b0 3 8 [(12,(.bool true))] ?_
      refine Wl.dn 8 (Wc.seq (Wc.enter (Wl.b0 0 8 [(80,(.bool true)),(81,v36),(83,(.sl 3 0 0 (List.length r) none)),(85,(.int .i64 (col))),(86,(.int .i64 (w)))] ?_)))
      refine Wl.callC (b:=base 15 99) (h1:=(hp [.row 0 51 3 0 (some 1) [.agg [.ptr 0 0 0,.sl 4 0 0 o.length none,.int .i64 col]],.row 0 54 1 0 (some 1) [.sl 3 0 0 r.length none],.row 0 57 6 0 (some 1) [encT t],.row 0 57 6 0 none (r.reverse.map encT),.row 0 5 1 0 none (o.map bV)])) (h2:=(hp [.row 0 51 3 0 (some 1) [.agg [.ptr 0 0 0,.sl 4 0 0 o.length none,.int .i64 col]],.row 0 54 1 0 (some 1) [.sl 3 0 0 r.length none],.row 0 57 6 0 (some 1) [encT t],.row 0 57 6 0 none (r.reverse.map encT),.row 0 5 1 0 none (o.map bV)])) (v:=.bool false) (d:=some 87) 8 [5,6,7,8,10,80,87] [(5,.int .i64 w),(6,.ptr 0 0 0),(7,.ptr 1 0 0),(8,.ptr 2 0 0),(10,.osl 6 ((kidsT t true).map encT)),(80,.bool true),(87,.bool false)] hfits (by kernel_rfl) (by kernel_rfl) ?_
      refine Wl.bn0 9 10 [(5,(.int .i64 (w))),(6,(.ptr 0 0 0)),(7,(.ptr 1 0 0)),(8,(.ptr 2 0 0)),(10,v36),(88,(.bool false))] (hp [.row 0 51 3 0 (some 1) [(.agg [(.ptr 0 0 0),(.sl 4 0 0 (List.length o) none),(.int .i64 (col))])],.row 0 54 1 0 (some 1) [(.sl 3 0 0 (List.length r) none)],.row 0 57 6 0 (some 1) [(encT t)],.row 0 57 6 0 none (List.map encT (List.reverse r)),.row 0 5 1 0 none (List.map bV o)]) ?_
      refine Wl.dn 10 (Wc.cf (Wc.enter (Wl.b0 0 3 [(91,v35),(93,(.bool (t.flat)))] ?_)))
      refine Wl.c 3 [(94,(.osl 6 (List.map encT (kidsT t t.flat))))] (@Go.AM.cKids (t) (t.flat) (by omega) hnb) ?_
      refine Wl.s 4 [] (@Go.AM.cPush5 (Obj.row 0 51 3 0 (some 1) [V.agg [V.ptr 0 0 0,V.sl 4 0 0 (List.length o) none,V.int .i64 col]]) (Obj.row 0 57 6 0 (some 1) [encT t]) (Obj.row 0 5 1 0 none (List.map bV o)) (List.reverse r) (List.length r) (kidsT t t.flat) hkl1 hrr hrl2) ?_
      refine Wl.dn 5 ?_
      refine layEndB (L:=kidsT t t.flat ++ r) (o:=o) (c:=col) (es:=r.reverse.map encT ++ (kidsT t t.flat).reverse.map encT) (nL:=r.length + (kidsT t t.flat).length) (bs:=o.map bV) (nO:=o.length) ?_ rfl rfl hne0 (by rw [List.length_append]; omega) (by simp) (hQ.push t.flat (lay_no c15 (by rw [hf]; simp))) (push_lt t _ r)
      exact Vw.gk [(0,false),(1,false),(2,false),(3,true),(4,true)] [(0 = 0),(0 = 0),(List.length (kidsT t t.flat) = List.length (kidsT t t.flat)),(∀ (e:V),e ∈ List.map encT (List.reverse r) ++ List.map encT (List.reverse (kidsT t t.flat)) → groundL (ground 3) (V.cells e) = true),(∀ (e:V),e ∈ List.map bV o → groundL (ground 3) (V.cells e) = true),(0 = 0),(0 = 0),(0 = 0)] (.cons (by omega) (.cons (by omega) (.cons (by omega) (.cons (by exact gnd_app (gnd_map (fun _ => rfl) _) (gnd_map (fun _ => rfl) _)) (.cons (by exact gnd_map (fun _ => rfl) _) (.cons (by omega) (.cons (by omega) (.cons (by omega) .nil))))))))
    refine Wc.weak (s':=(base 15 99).on [(5,.int .i64 w),(6,.ptr 0 0 0),(7,.ptr 1 0 0),(8,.ptr 2 0 0)]) (Le.on [5,6,7,8] (by kernel_rfl)) ?_
    refine Wc.enter (Wl.b0 0 3 [(5,(.int .i64 (w))),(32,(.agg [(.int .i64 (t.d.kind)),(.str (t.d.text)),(.int .i64 (t.d.n)),(.osl 4 (esD t.d)),(.bool (t.flat)),(.int .i64 (t.n))])),(34,(.bool (t.flat)))] ?_)
    refine Wl.c 3 [(35,(.osl 6 (List.map encT (kidsT t t.flat))))] (@Go.AM.cKids (t) (t.flat) (by omega) hnb) ?_
    refine Wl.s 4 [] (@Go.AM.cPush5 (Obj.row 0 51 3 0 (some 1) [V.agg [V.ptr 0 0 0,V.sl 4 0 0 (List.length o) none,V.int .i64 col]]) (Obj.row 0 57 6 0 (some 1) [encT t]) (Obj.row 0 5 1 0 none (List.map bV o)) (List.reverse r) (List.length r) (kidsT t t.flat) hkl1 hrr hrl2) ?_
    refine Wl.dn 5 ?_
    refine layEndB (L:=kidsT t t.flat ++ r) (o:=o) (c:=col) (es:=r.reverse.map encT ++ (kidsT t t.flat).reverse.map encT) (nL:=r.length + (kidsT t t.flat).length) (bs:=o.map bV) (nO:=o.length) ?_ rfl rfl hne0 (by rw [List.length_append]; omega) (by simp) (hQ.push t.flat (lay_other c1 (by omega) c15)) (push_lt t _ r)
    exact Vw.gk [(0,false),(1,false),(2,false),(3,true),(4,true)] [(0 = 0),(0 = 0),(List.length (kidsT t t.flat) = List.length (kidsT t t.flat)),(∀ (e:V),e ∈ List.map encT (List.reverse r) ++ List.map encT (List.reverse (kidsT t t.flat)) → groundL (ground 3) (V.cells e) = true),(∀ (e:V),e ∈ List.map bV o → groundL (ground 3) (V.cells e) = true),(0 = 0),(0 = 0),(0 = 0)] (.cons (by omega) (.cons (by omega) (.cons (by omega) (.cons (by exact gnd_app (gnd_map (fun _ => rfl) _) (gnd_map (fun _ => rfl) _)) (.cons (by exact gnd_map (fun _ => rfl) _) (.cons (by omega) (.cons (by omega) (.cons (by omega) .nil))))))))
  rintro ⟨L,o,cl⟩ ⟨hQ',hlt⟩
  have hQ':LayQ w R L o cl:=hQ'
  have hlt:sizeT L < sizeT (t :: r):=hlt
  cases L with
  | nil =>
   have hlz:sizeT [] < sizeT (t :: r):=hlt
   cases o with
   | nil =>
    let v37:Obj:=.row 0 51 3 0 (some 1) [.agg [.nilp,.nils,.int .i64 cl]]
    let v38:Obj:=.row 0 54 1 0 (some 1) [.sl 3 0 0 0 none]
    let v39:Obj:=.row 0 57 6 0 (some 1) [encT t]
    let v40:Heap:=(hp [v37,v38,v39,.row 0 57 6 0 none []])
    change Wc Tryd.prog EU _ ((base 15 99).on [(5,.int .i64 w),(6,.ptr 0 0 0),(7,.ptr 1 0 0),(8,.ptr 2 0 0)]) v40 _ _ _
    refine Wc.seq (Wc.seq (Wc.wn0 [(5,(.int .i64 w)),(6,(.ptr 0 0 0)),(7,(.ptr 1 0 0)),(8,(.ptr 2 0 0)),(96,(encT t))] v40 ?_))
    refine Wc.mid ((base 15 99).on [(5,.int .i64 w),(6,.ptr 0 0 0),(7,.ptr 1 0 0),(8,.ptr 2 0 0)]) v40 ?_ ?_
    ·refine Wc.wn0 [(5,(.int .i64 (w))),(6,(.ptr 0 0 0)),(7,(.ptr 1 0 0)),(8,(.ptr 4 0 0)),(96,(.agg [(.int .i64 (t.d.kind)),(.str (t.d.text)),(.int .i64 (t.d.n)),(.osl 4 (esD t.d)),(.bool (t.flat)),(.int .i64 (t.n))]))] (hp [.row 0 51 3 0 (some 1) [(.agg [.nilp,.nils,(.int .i64 (cl))])],.row 0 54 1 0 (some 1) [(.sl 3 0 0 0 none)],.row 0 57 6 0 (some 1) [(encT t)],.row 0 57 6 0 none [],.row 0 57 6 0 (some 1) [(.agg [(.int .i64 (t.d.kind)),(.str (t.d.text)),(.int .i64 (t.d.n)),(.osl 4 (esD t.d)),(.bool (t.flat)),(.int .i64 (t.n))])]]) ?_
     exact Vw.gk [(0,false),(1,false),(4,false),(3,false)] [(0 = 0),(0 = 0),(0 = 0),(0 = 0)] (.cons (by omega) (.cons (by omega) (.cons (by omega) (.cons (by omega) .nil))))
    refine Wc.enter ?_
    let v41:V:=(.agg [(.int .i64 0),(.str []),(.int .i64 0),.nils,(.bool false),(.int .i64 0)])
    refine Wl.s 0 [(5,(.int .i64 (w))),(6,(.ptr 0 0 0)),(7,(.ptr 1 0 0)),(8,(.ptr 2 0 0)),(26,(.tup [v41,(.bool false)]))] (@Go.AM.cPop4N (Obj.row 0 51 3 0 (some 1) [V.agg [V.nilp,V.nils,V.int .i64 cl]]) (Obj.row 0 57 6 0 (some 1) [encT t]) ([])) ?_
    refine Wl.bn0 1 6 [(9,(.bool false))] (hp [.row 0 51 3 0 (some 1) [(.agg [.nilp,.nils,(.int .i64 (cl))])],.row 0 54 1 0 (some 1) [(.sl 3 0 0 0 none)],.row 0 57 6 0 (some 1) [v41],.row 0 57 6 0 none [],.row 0 57 6 0 (some 1) [v41]]) ?_
    refine Wl.dn 6 ?_
    refine layDoneN (cur:=none) (L:=[]) (c:=cl) (es:=[]) (nL:=0) (isb:=false) ?_ rfl rfl rfl hQ' (fun _ => rfl) hlz
    exact Vw.gk [(0,false),(1,false),(2,false),(3,false)] [(0 = 0),(0 = 0),(0 = 0),(0 = 0)] (.cons (by omega) (.cons (by omega) (.cons (by omega) (.cons (by omega) .nil))))
   | cons b o =>
    let v42:Obj:=.row 0 54 1 0 (some 1) [.sl 3 0 0 0 none]
    let v43:Obj:=.row 0 57 6 0 (some 1) [encT t]
    change Wc Tryd.prog EU _ ((base 15 99).on [(5,.int .i64 w),(6,.ptr 0 0 0),(7,.ptr 1 0 0),(8,.ptr 2 0 0)]) (hp [.row 0 51 3 0 (some 1) [.agg [.ptr 0 0 0,.sl 4 0 0 (b :: o).length none,.int .i64 cl]],v42,v43,.row 0 57 6 0 none [],.row 0 5 1 0 none ((b :: o).map bV)]) _ _ _
    have hne0:b :: o ≠ []:=by simp
    generalize b :: o = o at *
    refine Wc.seq (Wc.seq ?_)
    let v44:Obj:=.row 0 51 3 0 (some 1) [.agg [.ptr 0 0 0,.sl 4 0 0 o.length none,.int .i64 cl]]
    let v45:Obj:=.row 0 54 1 0 (some 1) [.sl 3 0 0 0 none]
    let v46:Obj:=.row 0 57 6 0 (some 1) [encT t]
    let v47:Heap:=(hp [v44,v45,v46,.row 0 57 6 0 none [],.row 0 5 1 0 none (o.map bV)])
    refine Wc.wn0 [(5,(.int .i64 w)),(6,(.ptr 0 0 0)),(7,(.ptr 1 0 0)),(8,(.ptr 2 0 0)),(96,(encT t))] v47 ?_
    refine Wc.mid ((base 15 99).on [(5,.int .i64 w),(6,.ptr 0 0 0),(7,.ptr 1 0 0),(8,.ptr 2 0 0)]) v47 ?_ ?_
    ·refine Wc.wn0 [(5,(.int .i64 (w))),(6,(.ptr 0 0 0)),(7,(.ptr 1 0 0)),(8,(.ptr 5 0 0)),(96,(.agg [(.int .i64 (t.d.kind)),(.str (t.d.text)),(.int .i64 (t.d.n)),(.osl 4 (esD t.d)),(.bool (t.flat)),(.int .i64 (t.n))]))] (hp [.row 0 51 3 0 (some 1) [(.agg [(.ptr 0 0 0),(.sl 4 0 0 (List.length o) none),(.int .i64 (cl))])],.row 0 54 1 0 (some 1) [(.sl 3 0 0 0 none)],.row 0 57 6 0 (some 1) [(encT t)],.row 0 57 6 0 none [],.row 0 5 1 0 none (List.map bV o),.row 0 57 6 0 (some 1) [(.agg [(.int .i64 (t.d.kind)),(.str (t.d.text)),(.int .i64 (t.d.n)),(.osl 4 (esD t.d)),(.bool (t.flat)),(.int .i64 (t.n))])]]) ?_
     exact Vw.gk [(0,false),(1,false),(5,false),(3,false),(4,true)] [(0 = 0),(0 = 0),(0 = 0),(∀ (e:V),e ∈ List.map bV o → groundL (ground 3) (V.cells e) = true),(0 = 0),(0 = 0),(0 = 0)] (.cons (by omega) (.cons (by omega) (.cons (by omega) (.cons (by exact gnd_map (fun _ => rfl) _) (.cons (by omega) (.cons (by omega) (.cons (by omega) .nil)))))))
    refine Wc.enter ?_
    let v48:V:=(.agg [(.int .i64 0),(.str []),(.int .i64 0),.nils,(.bool false),(.int .i64 0)])
    refine Wl.s 0 [(5,(.int .i64 (w))),(6,(.ptr 0 0 0)),(7,(.ptr 1 0 0)),(8,(.ptr 2 0 0)),(26,(.tup [v48,(.bool false)]))] (@Go.AM.cPop5N (Obj.row 0 51 3 0 (some 1) [V.agg [V.ptr 0 0 0,V.sl 4 0 0 (List.length o) none,V.int .i64 cl]]) (Obj.row 0 57 6 0 (some 1) [encT t]) (Obj.row 0 5 1 0 none (List.map bV o)) ([])) ?_
    refine Wl.bn0 1 6 [(9,(.bool false))] (hp [.row 0 51 3 0 (some 1) [(.agg [(.ptr 0 0 0),(.sl 4 0 0 (List.length o) none),(.int .i64 (cl))])],.row 0 54 1 0 (some 1) [(.sl 3 0 0 0 none)],.row 0 57 6 0 (some 1) [v48],.row 0 57 6 0 none [],.row 0 5 1 0 none (List.map bV o),.row 0 57 6 0 (some 1) [v48]]) ?_
    refine Wl.dn 6 ?_
    refine layDoneB (o:=o) (cur:=none) (L:=[]) (c:=cl) (es:=[]) (nL:=0) (isb:=false) ?_ hne0 rfl rfl rfl hQ' (fun _ => rfl) hlz
    exact Vw.gk [(0,false),(1,false),(2,false),(3,false),(4,true)] [(0 = 0),(0 = 0),(0 = 0),(∀ (e:V),e ∈ List.map bV o → groundL (ground 3) (V.cells e) = true),(0 = 0),(0 = 0),(0 = 0)] (.cons (by omega) (.cons (by omega) (.cons (by omega) (.cons (by exact gnd_map (fun _ => rfl) _) (.cons (by omega) (.cons (by omega) (.cons (by omega) .nil)))))))
  | cons t1 r1 =>
   have hr1:r1.reverse.length + 1 ≤ 1000000:=by
    have h1:=hQ'.sum
    have h2:=sumT_len r1
    have h3:=szD_pos t1.d
    rw [sumT_cons] at h1
    rw [List.length_reverse]; omega
   have hrr1:r1.length + 1 = r1.reverse.length + 1:=by simp
   cases o with
   | nil =>
    let v49:Obj:=.row 0 51 3 0 (some 1) [.agg [.nilp,.nils,.int .i64 cl]]
    let v50:Obj:=.row 0 57 6 0 (some 1) [encT t]
    change Wc Tryd.prog EU _ ((base 15 99).on [(5,.int .i64 w),(6,.ptr 0 0 0),(7,.ptr 1 0 0),(8,.ptr 2 0 0)]) (hp [v49,.row 0 54 1 0 (some 1) [.sl 3 0 0 (t1 :: r1).length none],v50,.row 0 57 6 0 none ((t1 :: r1).reverse.map encT)]) _ _ _
    rw [List.length_cons,List.reverse_cons]
    refine Wc.seq (Wc.seq ?_)
    let v51:Obj:=.row 0 54 1 0 (some 1) [.sl 3 0 0 (r1.length + 1) none]
    let v52:Obj:=.row 0 57 6 0 none ((r1.reverse ++ [t1]).map encT)
    let v53:Heap:=(hp [v49,v51,v50,v52])
    refine Wc.wn0 [(5,(.int .i64 w)),(6,(.ptr 0 0 0)),(7,(.ptr 1 0 0)),(8,(.ptr 2 0 0)),(96,(encT t))] v53 ?_
    refine Wc.mid ((base 15 99).on [(5,.int .i64 w),(6,.ptr 0 0 0),(7,.ptr 1 0 0),(8,.ptr 2 0 0)]) v53 ?_ ?_
    ·refine Wc.wn0 [(5,(.int .i64 (w))),(6,(.ptr 0 0 0)),(7,(.ptr 1 0 0)),(8,(.ptr 4 0 0)),(96,(.agg [(.int .i64 (t.d.kind)),(.str (t.d.text)),(.int .i64 (t.d.n)),(.osl 4 (esD t.d)),(.bool (t.flat)),(.int .i64 (t.n))]))] (hp [.row 0 51 3 0 (some 1) [(.agg [.nilp,.nils,(.int .i64 (cl))])],.row 0 54 1 0 (some 1) [(.sl 3 0 0 (List.length r1 + 1) none)],.row 0 57 6 0 (some 1) [(encT t)],.row 0 57 6 0 none (List.map encT (List.reverse r1 ++ [t1])),.row 0 57 6 0 (some 1) [(.agg [(.int .i64 (t.d.kind)),(.str (t.d.text)),(.int .i64 (t.d.n)),(.osl 4 (esD t.d)),(.bool (t.flat)),(.int .i64 (t.n))])]]) ?_
     exact Vw.gk [(0,false),(1,false),(4,false),(3,true)] [(0 = 0),(∀ (e:V),e ∈ List.map encT (List.reverse r1 ++ [t1]) → groundL (ground 3) (V.cells e) = true),(0 = 0),(0 = 0),(0 = 0)] (.cons (by omega) (.cons (by exact gnd_map (fun _ => rfl) _) (.cons (by omega) (.cons (by omega) (.cons (by omega) .nil)))))
    refine Wc.enter (Wl.s 0 [(5,(.int .i64 (w))),(6,(.ptr 0 0 0)),(7,(.ptr 1 0 0)),(8,(.ptr 2 0 0)),(26,(.tup [(encT t1),(.bool true)]))] (@Go.AM.cPop4 (Obj.row 0 51 3 0 (some 1) [V.agg [V.nilp,V.nils,V.int .i64 cl]]) (Obj.row 0 57 6 0 (some 1) [encT t]) (List.reverse r1) (List.length r1 + 1) (t1) hrr1 (by omega)) ?_)
    refine Wl.bn0 1 6 [(9,(.bool true))] (hp [.row 0 51 3 0 (some 1) [(.agg [.nilp,.nils,(.int .i64 (cl))])],.row 0 54 1 0 (some 1) [(.sl 3 0 0 (List.length (List.reverse r1)) none)],.row 0 57 6 0 (some 1) [(.agg [(.int .i64 (t1.d.kind)),(.str (t1.d.text)),(.int .i64 (t1.d.n)),(.osl 4 (esD t1.d)),(.bool (t1.flat)),(.int .i64 (t1.n))])],.row 0 57 6 0 none (List.map encT (List.reverse r1 ++ [t1])),.row 0 57 6 0 (some 1) [(encT t1)]]) ?_
    refine Wl.dn 6 ?_
    refine layDoneN (cur:=some t1) (L:=r1) (c:=cl) (es:=r1.reverse.map encT) (nL:=r1.reverse.length) (isb:=true) ?_ rfl (by simp) rfl hQ' (fun e => by cases e) hlt
    refine Vw.trans (Vw.row (ver:=0) (ty:=57) (sz:=6) (pub:=0) (cap:=none) (es:=(r1.reverse ++ [t1]).map encT) 3 (r1.reverse.map encT) (by kernel_rfl) (Nat.zero_le _) (by simp) (by rw [List.map_append]; exact wke_pre flat_encT)) ?_
    exact Vw.gk [(0,false),(1,false),(2,false),(3,true)] [(0 = 0),(∀ (e:V),e ∈ List.map encT (List.reverse r1) → groundL (ground 3) (V.cells e) = true),(0 = 0),(0 = 0),(0 = 0)] (.cons (by omega) (.cons (by exact gnd_map (fun _ => rfl) _) (.cons (by omega) (.cons (by omega) (.cons (by omega) .nil)))))
   | cons b o =>
    let v54:Obj:=.row 0 57 6 0 (some 1) [encT t]
    change Wc Tryd.prog EU _ ((base 15 99).on [(5,.int .i64 w),(6,.ptr 0 0 0),(7,.ptr 1 0 0),(8,.ptr 2 0 0)]) (hp [.row 0 51 3 0 (some 1) [.agg [.ptr 0 0 0,.sl 4 0 0 (b :: o).length none,.int .i64 cl]],.row 0 54 1 0 (some 1) [.sl 3 0 0 (t1 :: r1).length none],v54,.row 0 57 6 0 none ((t1 :: r1).reverse.map encT),.row 0 5 1 0 none ((b :: o).map bV)]) _ _ _
    have hne0:b :: o ≠ []:=by simp
    generalize b :: o = o at *
    rw [List.length_cons,List.reverse_cons]
    refine Wc.seq (Wc.seq ?_)
    let v55:Obj:=.row 0 51 3 0 (some 1) [.agg [.ptr 0 0 0,.sl 4 0 0 o.length none,.int .i64 cl]]
    let v56:Obj:=.row 0 54 1 0 (some 1) [.sl 3 0 0 (r1.length + 1) none]
    let v57:Obj:=.row 0 57 6 0 (some 1) [encT t]
    let v58:Obj:=.row 0 57 6 0 none ((r1.reverse ++ [t1]).map encT)
    let v59:Heap:=(hp [v55,v56,v57,v58,.row 0 5 1 0 none (o.map bV)])
    refine Wc.wn0 [(5,(.int .i64 w)),(6,(.ptr 0 0 0)),(7,(.ptr 1 0 0)),(8,(.ptr 2 0 0)),(96,(encT t))] v59 ?_
    refine Wc.mid ((base 15 99).on [(5,.int .i64 w),(6,.ptr 0 0 0),(7,.ptr 1 0 0),(8,.ptr 2 0 0)]) v59 ?_ ?_
    ·refine Wc.wn0 [(5,(.int .i64 (w))),(6,(.ptr 0 0 0)),(7,(.ptr 1 0 0)),(8,(.ptr 5 0 0)),(96,(.agg [(.int .i64 (t.d.kind)),(.str (t.d.text)),(.int .i64 (t.d.n)),(.osl 4 (esD t.d)),(.bool (t.flat)),(.int .i64 (t.n))]))] (hp [.row 0 51 3 0 (some 1) [(.agg [(.ptr 0 0 0),(.sl 4 0 0 (List.length o) none),(.int .i64 (cl))])],.row 0 54 1 0 (some 1) [(.sl 3 0 0 (List.length r1 + 1) none)],.row 0 57 6 0 (some 1) [(encT t)],.row 0 57 6 0 none (List.map encT (List.reverse r1 ++ [t1])),.row 0 5 1 0 none (List.map bV o),.row 0 57 6 0 (some 1) [(.agg [(.int .i64 (t.d.kind)),(.str (t.d.text)),(.int .i64 (t.d.n)),(.osl 4 (esD t.d)),(.bool (t.flat)),(.int .i64 (t.n))])]]) ?_
     exact Vw.gk [(0,false),(1,false),(5,false),(3,true),(4,true)] [(0 = 0),(0 = 0),(0 = 0),(∀ (e:V),e ∈ List.map encT (List.reverse r1 ++ [t1]) → groundL (ground 3) (V.cells e) = true),(∀ (e:V),e ∈ List.map bV o → groundL (ground 3) (V.cells e) = true),(0 = 0),(0 = 0),(0 = 0)] (.cons (by omega) (.cons (by omega) (.cons (by omega) (.cons (by exact gnd_map (fun _ => rfl) _) (.cons (by exact gnd_map (fun _ => rfl) _) (.cons (by omega) (.cons (by omega) (.cons (by omega) .nil))))))))
    refine Wc.enter (Wl.s 0 [(5,(.int .i64 (w))),(6,(.ptr 0 0 0)),(7,(.ptr 1 0 0)),(8,(.ptr 2 0 0)),(26,(.tup [(encT t1),(.bool true)]))] (@Go.AM.cPop5 (Obj.row 0 51 3 0 (some 1) [V.agg [V.ptr 0 0 0,V.sl 4 0 0 (List.length o) none,V.int .i64 cl]]) (Obj.row 0 57 6 0 (some 1) [encT t]) (Obj.row 0 5 1 0 none (List.map bV o)) (List.reverse r1) (List.length r1 + 1) (t1) hrr1 (by omega)) ?_)
    refine Wl.bn0 1 6 [(9,(.bool true))] (hp [.row 0 51 3 0 (some 1) [(.agg [(.ptr 0 0 0),(.sl 4 0 0 (List.length o) none),(.int .i64 (cl))])],.row 0 54 1 0 (some 1) [(.sl 3 0 0 (List.length (List.reverse r1)) none)],.row 0 57 6 0 (some 1) [(.agg [(.int .i64 (t1.d.kind)),(.str (t1.d.text)),(.int .i64 (t1.d.n)),(.osl 4 (esD t1.d)),(.bool (t1.flat)),(.int .i64 (t1.n))])],.row 0 57 6 0 none (List.map encT (List.reverse r1 ++ [t1])),.row 0 5 1 0 none (List.map bV o),.row 0 57 6 0 (some 1) [(encT t1)]]) ?_
    refine Wl.dn 6 ?_
    refine layDoneB (o:=o) (cur:=some t1) (L:=r1) (c:=cl) (es:=r1.reverse.map encT) (nL:=r1.reverse.length) (isb:=true) ?_ hne0 rfl (by simp) rfl hQ' (fun e => by cases e) hlt
    refine Vw.trans (Vw.row (ver:=0) (ty:=57) (sz:=6) (pub:=0) (cap:=none) (es:=(r1.reverse ++ [t1]).map encT) 3 (r1.reverse.map encT) (by kernel_rfl) (Nat.zero_le _) (by simp) (by rw [List.map_append]; exact wke_pre flat_encT)) ?_
    exact Vw.gk [(0,false),(1,false),(2,false),(3,true),(4,true)] [(0 = 0),(0 = 0),(0 = 0),(∀ (e:V),e ∈ List.map encT (List.reverse r1) → groundL (ground 3) (V.cells e) = true),(∀ (e:V),e ∈ List.map bV o → groundL (ground 3) (V.cells e) = true),(0 = 0),(0 = 0),(0 = 0)] (.cons (by omega) (.cons (by omega) (.cons (by omega) (.cons (by exact gnd_map (fun _ => rfl) _) (.cons (by exact gnd_map (fun _ => rfl) _) (.cons (by omega) (.cons (by omega) (.cons (by omega) .nil))))))))
end Go.AM
namespace Go.AM
open Go.Proofs
set_option maxRecDepth 100000
set_option maxHeartbeats 4000000
theorem take_get (s:List UInt8) {i:Nat} (hi:i < s.length):s.take (i + 1) = s.take i ++ [s.getD i 0]:=by
 rw [List.take_add_one,List.getD_eq_getElem?_getD,List.getElem?_eq_getElem hi]; rfl
theorem byte_is (s:List UInt8) (i:Nat) (c:UInt8):byteAt s (i:Int) = (c.toNat:Int) ↔ s.getD i 0 = c:=by
 unfold byteAt
 rw [Int.toNat_natCast]
 constructor
 ·intro h; exact UInt8.toNat_inj.1 (by exact_mod_cast h)
 ·intro h; rw [h]
theorem cFeeds (s:List UInt8) (hs:s.length ≤ 10000000):Cp Tryd.prog EU 20 [.str s] (.bool (hasFeed s)):=by
 refine Cp.body (fn:=Tryd.f20) Tryd.func20 rfl (by kernel_rfl) ?_
 refine Wc.seq (Wc.wn0 [(0,(.str s))] Heap.empty ?_)
 refine Wc.seq (Wc.seq (Wc.w0 [(3,(.int .i64 0))] ?_))
 refine Wc.block ?_
 refine Wc.loop (α:=Nat) (fun i => (base 20 14).on [(0,.str s),(3,.int .i64 (i:Int))]) (fun _ => Heap.empty) (fun i => i ≤ s.length ∧ (10:UInt8) ∉ s.take i) (fun i => s.length - i) 0 (Le.on [0,3] (by kernel_rfl)) rfl ⟨Nat.zero_le _,by simp⟩ ?_
 rintro i ⟨hi,hn⟩
 have htk:=fun h:i < s.length => take_get s h
 refine Wc.seq (Wc.seq (Wc.wn0 [(0,(.str s)),(3,(.int .i64 (i:Int))),(7,(.bool (decide ((i:Int) < (List.length s:Int)))))] Heap.empty ?_))
 refine Wc.cq (p:=(i:Int) < (List.length s:Int)) (fun c1 => ?_) (fun c1 => ?_)
 ·refine Wc.skip (Wc.seq (Wc.block (Wc.seq (Wc.w [(13,(.bool (decide (byteAt s (i:Int) = 10))))] [((0 ≤ (i:Int)) ∧ ((i:Int) < (List.length s:Int)))] (.cons (by omega) .nil) ?_))))
  refine Wc.cq (p:=byteAt s (i:Int) = 10) (fun c2 => ?_) (fun c2 => ?_)
  ·refine Wc.seq (Wc.w0 [(2,(.bool true))] ?_)
   refine Wc.ret (blockX.ret ?_)
   refine blockX.ret ?_
   refine retX.mk (.bool true) ⟨rfl,rfl⟩ (by kernel_rfl) ?_
   have hi':i < s.length:=by omega
   have hm:(10:UInt8) ∈ s:=by
    have e:s.getD i 0 = 10:=(byte_is s i 10).1 c2
    rw [List.getD_eq_getElem?_getD,List.getElem?_eq_getElem hi'] at e
    rw [← e]; exact List.getElem_mem hi'
   rw [(hasFeed_iff s).2 hm]; rfl
  refine Wc.skip (Wc.w [(3,(.int .i64 ((i:Int) + 1)))] [(i64r ((i:Int) + 1))] (.cons (by omega) .nil) ?_)
  have hi':i < s.length:=by omega
  refine ⟨i + 1,Le.on [0,3] (by kernel_rfl),rfl,⟨hi',?_⟩,by omega⟩
  rw [htk hi',List.mem_append]
  rintro (q | q)
  ·exact hn q
  rw [List.mem_singleton] at q
  exact c2 ((byte_is s i 10).2 q.symm)
 refine Wc.exit (blockX.here (Wc.seq (Wc.w0 [(2,(.bool false))] ?_)))
 refine Wc.ret ?_
 refine retX.mk (.bool false) ⟨rfl,rfl⟩ (by kernel_rfl) ?_
 have e:s.take i = s:=by rw [List.take_of_length_le (by omega)]
 rw [e] at hn
 have:hasFeed s = false:=Bool.eq_false_iff.2 fun q => hn ((hasFeed_iff s).1 q)
 rw [this]; rfl
def fitsOne (d:Dc) (col w:Int):Bool:=!hardD d && decide (max 0 (min col 1073741824) + (wide (firstLine (flatD d)):Int) ≤ max 0 (min w 10000))
theorem cFitsOne {d:Dc} {col w:Int} (hd:rightD d) (hs:szD d ≤ 100000):Cp Tryd.prog EU 19 [encD d,.int .i64 col,.int .i64 w] (.bool (fitsOne d col w)):=by
 refine Cp.body (fn:=Tryd.f19) Tryd.func19 rfl (by kernel_rfl) ?_
 have hfl:=flatD_len d
 have hwl:=wide_le (firstLine (flatD d))
 unfold fitsOne
 by_cases hh:hardD d = true
 ·have hcf:Cp Tryd.prog EU 35 [encD d] (.tup [.str [],.bool false]):=by
   have:=cDocFlat hd hs
   rw [if_pos hh,hh] at this; exact this
  have hct:=cCutN (s:=[]) (by simp)
  rw [hh]
  refine Wc.seq ?_
  let v1:V:=(.agg [(.int .i64 (d.kind)),(.str (d.text)),(.int .i64 (d.n)),(.osl 4 (esD d))])
  refine Wc.wn0 [(0,v1),(1,(.int .i64 (col))),(2,(.int .i64 (w))),(3,(.ptr 0 0 0)),(6,(.bool false))] (hp [.row 0 26 4 0 (some 1) [v1]]) ?_
  refine Wc.seq (Wc.enter (Wl.b0 0 1 [(13,v1)] ?_))
  refine Wl.c 1 [(14,(.tup [(.str []),(.bool false)]))] (@hcf) ?_
  refine Wl.b0 2 7 [(7,(.str [])),(8,(.bool false))] ?_
  refine Wl.dn 7 (Wc.seq (Wc.enter (Wl.b0 0 1 [(18,(.str []))] ?_)))
  refine Wl.c 1 [(19,(.tup [(.str []),(.str []),(.bool false)]))] (@Go.AM.cCutN ([]) (by simp)) ?_
  refine Wl.b0 2 9 [(9,(.str []))] ?_
  refine Wl.dn 9 (Wc.seq (Wc.w0 [] ?_))
  refine Wc.ret ?_
  refine retX.mk (.bool false) ⟨rfl,rfl⟩ (by kernel_rfl) ?_
  kernel_rfl
 have hcf:Cp Tryd.prog EU 35 [encD d] (.tup [.str (flatD d),.bool true]):=by
  have:=cDocFlat hd hs
  rw [if_neg hh,Bool.eq_false_iff.2 hh] at this; exact this
 rw [Bool.eq_false_iff.2 hh]
 by_cases hf:(10:UInt8) ∈ flatD d
 ·obtain ⟨a,b,h1,h2,h3⟩:=feed_split hf
  rw [h3] at hwl ⊢
  have hal:a.length ≤ 100000:=by rw [h1] at hfl; simp at hfl; omega
  rw [h1] at hcf
  have hct:=cCutF (a:=a) (b:=b) h2 (by omega)
  generalize a ++ 10 :: b = ab at *
  refine Wc.seq ?_
  let v2:V:=(.agg [(.int .i64 (d.kind)),(.str (d.text)),(.int .i64 (d.n)),(.osl 4 (esD d))])
  refine Wc.wn0 [(0,v2),(1,(.int .i64 (col))),(2,(.int .i64 (w))),(3,(.ptr 0 0 0)),(6,(.bool false))] (hp [.row 0 26 4 0 (some 1) [v2]]) ?_
  refine Wc.seq (Wc.enter (Wl.b0 0 1 [(13,v2)] ?_))
  refine Wl.c 1 [(14,(.tup [(.str ab),(.bool true)]))] (@hcf) ?_
  refine Wl.b0 2 7 [(7,(.str ab)),(8,(.bool true))] ?_
  refine Wl.dn 7 (Wc.seq (Wc.enter (Wl.b0 0 1 [(18,(.str ab))] ?_)))
  refine Wl.c 1 [(19,(.tup [(.str a),(.str b),(.bool true)]))] (@hct) ?_
  refine Wl.b0 2 9 [(9,(.str a))] ?_
  refine Wl.dn 9 (Wc.seq (Wc.enter (Wl.b0 0 6 [(24,(.bool true)),(27,(.int .i64 (max 0 (min col 1073741824)))),(28,(.str a))] ?_)))
  refine Wl.c 6 [(29,(.int .i64 ((wide a:Int))))] (@Go.AM.c16 (a) (by omega)) ?_
  refine Wl.bs 7 14 [(6,(.bool (decide (max 0 (min col 1073741824) + (wide a:Int) ≤ max 0 (min w 10000)))))] [(i64r (max (0:Int) (min col (1073741824:Int)) + (wide a:Int)))] (.cons (by omega) .nil) ?_
  refine Wl.dn 14 (Wc.ret ?_)
  refine retX.mk (.bool (decide (max 0 (min col 1073741824) + (wide a:Int) ≤ max 0 (min w 10000)))) ⟨rfl,rfl⟩ (by kernel_rfl) ?_
  kernel_rfl
 have h3:firstLine (flatD d) = flatD d:=by have:=firstLine_none hf []; rw [List.append_nil] at this; rw [this]; simp [firstLine,linesOf]
 rw [h3] at hwl ⊢
 have hct:=cCutN hf
 generalize flatD d = f at *
 refine Wc.seq ?_
 let v3:V:=(.agg [(.int .i64 (d.kind)),(.str (d.text)),(.int .i64 (d.n)),(.osl 4 (esD d))])
 refine Wc.wn0 [(0,v3),(1,(.int .i64 (col))),(2,(.int .i64 (w))),(3,(.ptr 0 0 0)),(6,(.bool false))] (hp [.row 0 26 4 0 (some 1) [v3]]) ?_
 refine Wc.seq (Wc.enter (Wl.b0 0 1 [(13,v3)] ?_))
 refine Wl.c 1 [(14,(.tup [(.str f),(.bool true)]))] (@hcf) ?_
 refine Wl.b0 2 7 [(7,(.str f)),(8,(.bool true))] ?_
 refine Wl.dn 7 (Wc.seq (Wc.enter (Wl.b0 0 1 [(18,(.str f))] ?_)))
 refine Wl.c 1 [(19,(.tup [(.str f),(.str []),(.bool false)]))] (@hct) ?_
 refine Wl.b0 2 9 [(9,(.str f))] ?_
 refine Wl.dn 9 (Wc.seq (Wc.enter (Wl.b0 0 6 [(24,(.bool true)),(27,(.int .i64 (max 0 (min col 1073741824)))),(28,(.str f))] ?_)))
 refine Wl.c 6 [(29,(.int .i64 ((wide f:Int))))] (@Go.AM.c16 (f) (by omega)) ?_
 refine Wl.bs 7 14 [(6,(.bool (decide (max 0 (min col 1073741824) + (wide f:Int) ≤ max 0 (min w 10000)))))] [(i64r (max (0:Int) (min col (1073741824:Int)) + (wide f:Int)))] (.cons (by omega) .nil) ?_
 refine Wl.dn 14 (Wc.ret ?_)
 refine retX.mk (.bool (decide (max 0 (min col 1073741824) + (wide f:Int) ≤ max 0 (min w 10000)))) ⟨rfl,rfl⟩ (by kernel_rfl) ?_
 kernel_rfl
end Go.AM
namespace Go.AM
open Go.Proofs
set_option maxRecDepth 100000
set_option maxHeartbeats 4000000
theorem foldr_le {l:List Nat} {m:Nat} (h:∀ x,x ∈ l → x ≤ m):l.foldr max 0 ≤ m:=by
 induction l with
 | nil => exact Nat.zero_le _
 | cons y l IH =>
  rw [List.foldr_cons]
  have h1:=h y (by simp)
  have h2:=IH fun x hx => h x (by simp [hx])
  omega
theorem pnD_le {k n:Int} {t:List UInt8} {l:List Dc} {m:Nat} (h:∀ d,d ∈ l → pnD d ≤ m):pnD ⟨k,t,n,l⟩ ≤ n.natAbs + m:=by
 rw [pnD_eq]
 have:(l.map pnD).foldr max 0 ≤ m:=foldr_le fun x hx => by
  obtain ⟨d,hd,rfl⟩:=List.mem_map.1 hx
  exact h d hd
 exact Nat.add_le_add_left this _
theorem pn_row {l:List Dc} {m:Nat} (h:∀ d,d ∈ l → pnD d ≤ m):pnD (rowD l) ≤ m:=by
 have hf:∀ d,d ∈ l.filter (fun d => !decide (d.kind = 0)) → pnD d ≤ m:=fun d hd => h d (List.mem_filter.1 hd).1
 unfold rowD
 split
 ·have:=pnD_le (k:=0) (n:=0) (t:=[]) (l:=[]) (m:=0) (fun d hd => by cases hd)
  unfold dc0; simp at this; omega
 ·rename_i x e
  exact hf x (by rw [e]; simp)
 ·rename_i l' e1 e2
  have:=pnD_le (k:=7) (n:=0) (t:=[]) hf
  simpa using this
theorem pn_step {l:List Dc} {a b m:Nat} (h:∀ d,d ∈ l → pnD d ≤ m):∀ d,d ∈ stepD' l a b → pnD d ≤ m + 7:=by
 have ht:∀ k d,d ∈ l.take k → pnD d ≤ m:=fun k d hd => h d (List.mem_of_mem_take hd)
 have hd':∀ k d,d ∈ l.drop k → pnD d ≤ m:=fun k d hd => h d (List.mem_of_mem_drop hd)
 have one:∀ (L:List Dc) (x:Dc),(∀ d,d ∈ L → pnD d ≤ m) → pnD x ≤ m + 7 → ∀ d,d ∈ L ++ [x] → pnD d ≤ m + 7:=fun L x h1 h2 d hd => by
  rcases List.mem_append.1 hd with q | q
  ·have:=h1 d q; omega
  ·rw [List.mem_singleton] at q; subst q; exact h2
 have leaf:∀ k t,pnD ⟨k,t,0,[]⟩ ≤ m + 7:=fun k t => by
  have:=pnD_le (k:=k) (n:=0) (t:=t) (l:=[]) (m:=0) (fun d hd => by cases hd)
  simp at this; omega
 unfold stepD'
 split
 ·exact one _ _ h (leaf _ _)
 ·split
  ·exact one _ _ h (leaf _ _)
  ·split
   ·exact one _ _ h (leaf _ _)
   ·split
    ·refine one _ _ (ht _) ?_
     have h1:=pnD_le (k:=7) (n:=0) (t:=[]) (hd' (l.length - min (b % 4) l.length))
     have h2:=pnD_le (k:=5) (n:=((b % 5:Nat):Int) - 2 + 5 * ((b % 2:Nat):Int)) (t:=[]) (l:=[⟨7,[],0,l.drop (l.length - min (b % 4) l.length)⟩]) (m:=m) (fun d hd => by
      rw [List.mem_singleton] at hd
      subst hd
      simpa using h1)
     omega
    ·split
     ·refine one _ _ (ht _) ?_
      have h1:=pnD_le (k:=7) (n:=0) (t:=[]) (hd' (l.length - min (b % 4) l.length))
      have h2:=pnD_le (k:=6) (n:=0) (t:=[]) (l:=[⟨7,[],0,l.drop (l.length - min (b % 4) l.length)⟩]) (m:=m) (fun d hd => by
       rw [List.mem_singleton] at hd
       subst hd
       simpa using h1)
      simp at h2; omega
     ·refine one _ _ (ht _) ?_
      have:=pn_row (hd' (l.length - min (b % 4) l.length)); omega
theorem docTo_pn (c:List UInt8):∀ n d,d ∈ docTo c n → pnD d ≤ 7 * n:=by
 intro n
 induction n with
 | zero => intro d hd; cases hd
 | succ n IH =>
  intro d hd
  have:=pn_step IH d hd
  omega
theorem docOf_pn (c:List UInt8):pnD (docOf c) ≤ 280:=by
 have h:=pnD_le (k:=7) (n:=0) (t:=[]) (docTo_pn c (docN c))
 have:docN c ≤ 40:=Nat.min_le_right _ _
 unfold docOf
 simp at h; omega
def layD (w:Int) (d:Dc):List UInt8:=layS (max 0 (min w 10000)) [⟨d,false,0⟩] 0
theorem cLay {d:Dc} {wd:Int} (hr:rightD d) (hs:szD d ≤ 2000) (hpn:pnD d ≤ 320):Cp Tryd.prog EU 15 [encD d,.int .i64 wd] (.str (layD wd d)):=cLayout hr hs hpn
end Go.AM
namespace Go.AM
open Go.Proofs
set_option maxRecDepth 100000
set_option maxHeartbeats 4000000
def decB (s:List UInt8):Nat × Nat:=decG (atN s 0) (atN s 1) (atN s 2) (atN s 3) (decide (1 < s.length)) (decide (2 < s.length)) (decide (3 < s.length))
def chkB:Nat → List UInt8 → Bool
 | 0,s => s.isEmpty
 | n + 1,s => s.isEmpty || (!decide (decB s = badP) && chkB n (s.drop (decB s).2))
theorem chkB_ok:∀ (n:Nat) (s:List UInt8),chkB n s = true → chk s < 0:=by
 intro n
 induction n with
 | zero => intro s h; simp only [chkB,List.isEmpty_iff] at h; rw [h,chk_nil]; decide
 | succ n IH =>
  intro s h
  simp only [chkB,Bool.or_eq_true,List.isEmpty_iff,Bool.and_eq_true,Bool.not_eq_true',decide_eq_false_iff_not] at h
  by_cases hs:s = []
  ·rw [hs,chk_nil]; decide
  ·have h:=h.resolve_left hs
   have e:dec s = decB s:=dec_list s
   rw [chk_good hs (by rw [e]; exact h.1),if_pos (by rw [e]; exact IH _ h.2)]; decide
theorem textsD_good:∀ k,k < 7 → chk (textsD.getD k []) < 0:=fun k hk => by
 have:∀ k:Fin 7,chkB 12 (textsD.getD k.1 []) = true:=by decide
 exact chkB_ok 12 _ (this ⟨k,hk⟩)
theorem good_node {k n:Int} {t:List UInt8} {l:List Dc} (ht:chk t < 0) (h:∀ d,d ∈ l → goodD d):goodD ⟨k,t,n,l⟩:=by
 rw [goodD]
 exact ⟨ht,h⟩
theorem nil_good:chk [] < 0:=by rw [chk_nil]; decide
theorem good_row {l:List Dc} (h:∀ d,d ∈ l → goodD d):goodD (rowD l):=by
 have hf:∀ d,d ∈ l.filter (fun d => !decide (d.kind = 0)) → goodD d:=fun d hd => h d (List.mem_filter.1 hd).1
 unfold rowD
 split
 ·exact good_node nil_good (fun d hd => by cases hd)
 ·rename_i x e
  exact hf x (by rw [e]; simp)
 ·exact good_node nil_good hf
theorem good_step {l:List Dc} {a b:Nat} (h:∀ d,d ∈ l → goodD d):∀ d,d ∈ stepD' l a b → goodD d:=by
 have ht:∀ k d,d ∈ l.take k → goodD d:=fun k d hd => h d (List.mem_of_mem_take hd)
 have hd':∀ k d,d ∈ l.drop k → goodD d:=fun k d hd => h d (List.mem_of_mem_drop hd)
 have one:∀ (L:List Dc) (x:Dc),(∀ d,d ∈ L → goodD d) → goodD x → ∀ d,d ∈ L ++ [x] → goodD d:=fun L x h1 h2 d hd => by
  rcases List.mem_append.1 hd with q | q
  ·exact h1 d q
  ·rw [List.mem_singleton] at q; subst q; exact h2
 have no:∀ d,d ∈ ([]:List Dc) → goodD d:=fun d hd => by cases hd
 have sing:∀ x,goodD x → ∀ d,d ∈ [x] → goodD d:=fun x hx d hd => by rw [List.mem_singleton] at hd; subst hd; exact hx
 unfold stepD'
 split
 ·exact one _ _ h (good_node (textsD_good _ (Nat.mod_lt _ (by decide))) no)
 ·split
  ·exact one _ _ h (good_node nil_good no)
  ·split
   ·exact one _ _ h (good_node nil_good no)
   ·split
    ·exact one _ _ (ht _) (good_node nil_good (sing _ (good_node nil_good (hd' _))))
    ·split
     ·exact one _ _ (ht _) (good_node nil_good (sing _ (good_node nil_good (hd' _))))
     ·exact one _ _ (ht _) (good_row (hd' _))
theorem docTo_good (c:List UInt8):∀ n d,d ∈ docTo c n → goodD d:=by
 intro n
 induction n with
 | zero => intro d hd; cases hd
 | succ n IH => exact good_step IH
theorem docOf_good (c:List UInt8):goodD (docOf c):=good_node nil_good (docTo_good c _)
def grp (d:Dc):Dc:=⟨6,[],0,[d]⟩
theorem grp_right {d:Dc} (h:rightD d):rightD (grp d):=by
 unfold grp
 rw [rightD]
 refine ⟨by show (0:Int) ≤ 6; decide,by show (6:Int) ≤ 7; decide,⟨fun q => absurd rfl q,fun q => by simp at q⟩,fun q => absurd rfl q,by show (-1000:Int) ≤ 0; decide,by show (0:Int) ≤ 1000; decide,fun _ => rfl,fun q => by simp at q,fun k hk => ?_⟩
 have hk:k ∈ [d]:=hk
 rw [List.mem_singleton] at hk
 subst hk; exact h
theorem grp_hard (d:Dc):hardD (grp d) = hardD d:=by
 rw [hardD_eq]
 unfold grp
 simp
theorem grp_flat (d:Dc):flatD (grp d) = flatD d:=by
 rw [flatD_eq]
 unfold grp
 simp
theorem grp_sz (d:Dc):szD (grp d) = 1 + szD d:=by
 unfold grp
 rw [szD_node,sumD_one]; simp
theorem grp_pn (d:Dc):pnD (grp d) ≤ pnD d:=by
 have:=pnD_le (k:=6) (n:=0) (t:=[]) (l:=[d]) (m:=pnD d) (fun x hx => by rw [List.mem_singleton] at hx; subst hx; exact Nat.le_refl _)
 unfold grp
 simpa using this
theorem grp_good {d:Dc} (h:goodD d):goodD (grp d):=good_node nil_good (fun x hx => by rw [List.mem_singleton] at hx; subst hx; exact h)
theorem lay_grp {d:Dc} {w:Int} (hr:rightD d) (hg:goodD d) (hh:hardD d = false) (hw:(wide (firstLine (flatD d)):Int) ≤ max 0 (min w 10000)):layD w (grp d) = flatD d:=by
 have:=lay_group (w:=max 0 (min w 10000)) (grp_right hr) (grp_good hg) (by rw [grp_hard]; exact hh) rfl (by rw [grp_flat]; exact hw)
 rw [grp_flat] at this
 exact this
theorem cGrp {d:Dc} {wd:Int} {c:Option Nat} (hr:rightD d) (hs:szD d ≤ 1000) (hpn:pnD d ≤ 320):Cp Tryd.prog EU 15 [.agg [.int .i64 6,.str [],.int .i64 0,.gsl 4 [encD d] c],.int .i64 wd] (.str (layD wd (grp d))) :=
 .args (.cons (wk_doc (l:=[d]) rfl) (.cons (.refl _) .nil)) (cLay (d:=grp d) (grp_right hr) (by rw [grp_sz]; omega) (by have:=grp_pn d; omega))
end Go.AM
namespace Go.AM
open Go.Proofs
set_option maxRecDepth 100000
set_option maxHeartbeats 4000000
open Classical in
theorem fitFew_go (l:List UInt8) (k j:Nat) (hk:k < 256) (hj:j < 256):Cx Tryd.prog EU 6 [.osl 1 (l.map bV),.int .u8 (k:Int),.int .u8 (j:Int)] Heap.empty (fun v _ => v = .bool true):=by
 refine Ev.body (fn:=Tryd.f6) Tryd.func6 rfl (by kernel_rfl) ?_
 have hsz:=docOf_sz l
 have hpn:=docOf_pn l
 have hgd:=docOf_good l
 have hdoc:=cDoc (l:=l)
 generalize docOf l = d at *
 have hright:=cRight 100000 (by omega) d (by omega)
 by_cases hr:rightD d
 ·rw [decide_eq_true hr] at hright
  obtain ⟨a,ha⟩:∃ a:Int,a = min (k:Int) (j:Int):=⟨_,rfl⟩
  obtain ⟨b,hb⟩:∃ b:Int,b = max (k:Int) (j:Int):=⟨_,rfl⟩
  have hab:0 ≤ a ∧ a ≤ b ∧ b ≤ 255:=by omega
  have h1:=fun c => cGrp (wd:=a) (c:=c) hr (by omega) (by omega)
  have h2:=fun c => cGrp (wd:=b) (c:=c) hr (by omega) (by omega)
  have hfa:=cFitsOne (col:=0) (w:=a) hr (by omega)
  have hfb:=cFitsOne (col:=0) (w:=b) hr (by omega)
  have hfl:=cFlat2 d (by omega) hr
  have hlf:=flatD_len d
  have hw1:=cFeeds (flatD d) (by omega)
  have hw2:=c23 (flatD d) (by omega)
  by_cases hh:hardD d = true
  ·have ea:fitsOne d 0 a = false:=by unfold fitsOne; rw [hh]; rfl
   have eb:fitsOne d 0 b = false:=by unfold fitsOne; rw [hh]; rfl
   rw [ea] at hfa
   rw [eb] at hfb
   rw [if_pos hh,hh] at hfl
   change Cp _ _ _ _ (.tup [.str [],.bool false]) at hfl
   rw [ha] at h1 hfa
   rw [hb] at h2 hfb
   generalize layD (min (k:Int) j) (grp d) = x at *
   generalize layD (max (k:Int) j) (grp d) = y at *
   refine Wc.seq (Wc.wn0 [(0,(.osl 1 (List.map bV l))),(1,(.int .u8 (k:Int))),(2,(.int .u8 (j:Int))),(6,(.bool false))] Heap.empty ?_)
   refine Wc.seq (Wc.enter (Wl.b0 0 1 [(15,(.osl 1 (List.map bV l)))] ?_))
   let v1:V:=(.agg [(.int .i64 (d.kind)),(.str (d.text)),(.int .i64 (d.n)),(.osl 4 (esD d))])
   refine Wl.c 1 [(16,v1)] (@hdoc) ?_
   let v2:Obj:=.row 0 26 4 0 (some 1) [v1]
   refine Wl.bn0 2 4 [(7,(.ptr 0 0 0))] (hp [v2]) ?_
   refine Wl.dn 4 (Wc.seq (Wc.seq (Wc.enter (Wl.b0 0 1 [(17,v1)] ?_))))
   refine Wl.c 1 [(18,(.bool true))] (@hright) ?_
   refine Wl.b0 2 3 [(19,(.bool false))] ?_
   refine Wl.dn 3 (Wc.cf (Wc.skip (Wc.seq ?_)))
   let v3:V:=(.gsl 4 [v1] (some 1))
   let v4:V:=(.agg [(.int .i64 6),(.str []),(.int .i64 0),v3])
   refine Wc.wn0 [(8,(.ptr 1 0 0))] (hp [v2,.row 0 26 4 0 (some 1) [v4]]) ?_
   refine Wc.seq ?_
   let v5:V:=(.int .i64 (min (k:Int) (j:Int)))
   refine Wc.w [(9,v5)] [(i64r (min (k:Int) (j:Int)))] (.cons (by omega) .nil) ?_
   refine Wc.seq ?_
   let v6:V:=(.int .i64 (max (k:Int) (j:Int)))
   refine Wc.w [(10,v6)] [(i64r (max (k:Int) (j:Int)))] (.cons (by omega) .nil) ?_
   refine Wc.seq (Wc.enter (Wl.b0 0 1 [(33,v1)] ?_))
   refine Wl.c 1 [(34,(.tup [(.str []),(.bool false)]))] (@hfl) ?_
   refine Wl.b0 2 7 [(11,(.str [])),(12,(.bool false))] ?_
   refine Wl.dn 7 (Wc.seq (Wc.enter (Wl.b0 0 2 [(37,v4),(38,v5)] ?_)))
   refine Wl.c 2 [(39,(.str x))] (@h1 (some 1)) ?_
   refine Wl.b0 3 4 [(13,(.str x))] ?_
   refine Wl.dn 4 (Wc.seq (Wc.enter (Wl.b0 0 2 [(40,v4),(41,v6)] ?_)))
   refine Wl.c 2 [(42,(.str y))] (@h2 (some 1)) ?_
   refine Wl.b0 3 4 [(14,(.str y))] ?_
   refine Wl.dn 4 (Wc.seq (Wc.enter (Wl.b0 0 24 [(64,(.bool true)),(65,v1),(66,v5)] ?_)))
   refine Wl.c 24 [(67,(.bool false))] (@hfa) ?_
   refine Wl.b0 25 62 [(6,(.bool true))] ?_
   refine Wl.dn 62 (Wc.ret ?_)
   refine retX.mk (.bool true) ⟨rfl,rfl⟩ (by kernel_rfl) ?_
   kernel_rfl
  have hhf:hardD d = false:=Bool.eq_false_iff.2 hh
  rw [if_neg hh,hhf] at hfl
  change Cp _ _ _ _ (.tup [.str (flatD d),.bool true]) at hfl
  have ef:∀ c:Int,0 ≤ c ∧ c ≤ 255 → fitsOne d 0 c = decide ((wide (firstLine (flatD d)):Int) ≤ c):=fun c hc => by
   unfold fitsOne
   rw [hhf,show max 0 (min (0:Int) 1073741824) = 0 by omega,show max 0 (min c 10000) = c by omega,Int.zero_add]; rfl
  by_cases hF:(wide (firstLine (flatD d)):Int) ≤ a
  ·rw [ef a (by omega),decide_eq_true hF] at hfa
   rw [ef b (by omega),decide_eq_true (by omega)] at hfb
   have ex:=lay_grp (w:=a) hr hgd hhf (by omega)
   have ey:=lay_grp (w:=b) hr hgd hhf (by omega)
   rw [ex] at h1
   rw [ey] at h2
   rw [ha] at h1 hfa
   rw [hb] at h2 hfb
   generalize flatD d = f at *
   refine Wc.seq (Wc.wn0 [(0,(.osl 1 (List.map bV l))),(1,(.int .u8 (k:Int))),(2,(.int .u8 (j:Int))),(6,(.bool false))] Heap.empty ?_)
   refine Wc.seq (Wc.enter (Wl.b0 0 1 [(15,(.osl 1 (List.map bV l)))] ?_))
   let v7:V:=(.agg [(.int .i64 (d.kind)),(.str (d.text)),(.int .i64 (d.n)),(.osl 4 (esD d))])
   refine Wl.c 1 [(16,v7)] (@hdoc) ?_
   let v8:Obj:=.row 0 26 4 0 (some 1) [v7]
   refine Wl.bn0 2 4 [(7,(.ptr 0 0 0))] (hp [v8]) ?_
   refine Wl.dn 4 (Wc.seq (Wc.seq (Wc.enter (Wl.b0 0 1 [(17,v7)] ?_))))
   refine Wl.c 1 [(18,(.bool true))] (@hright) ?_
   refine Wl.b0 2 3 [(19,(.bool false))] ?_
   refine Wl.dn 3 (Wc.cf (Wc.skip (Wc.seq ?_)))
   let v9:V:=(.gsl 4 [v7] (some 1))
   let v10:V:=(.agg [(.int .i64 6),(.str []),(.int .i64 0),v9])
   refine Wc.wn0 [(8,(.ptr 1 0 0))] (hp [v8,.row 0 26 4 0 (some 1) [v10]]) ?_
   refine Wc.seq ?_
   let v11:V:=(.int .i64 (min (k:Int) (j:Int)))
   refine Wc.w [(9,v11)] [(i64r (min (k:Int) (j:Int)))] (.cons (by omega) .nil) ?_
   refine Wc.seq ?_
   let v12:V:=(.int .i64 (max (k:Int) (j:Int)))
   refine Wc.w [(10,v12)] [(i64r (max (k:Int) (j:Int)))] (.cons (by omega) .nil) ?_
   refine Wc.seq (Wc.enter (Wl.b0 0 1 [(33,v7)] ?_))
   refine Wl.c 1 [(34,(.tup [(.str f),(.bool true)]))] (@hfl) ?_
   refine Wl.b0 2 7 [(11,(.str f)),(12,(.bool true))] ?_
   refine Wl.dn 7 (Wc.seq (Wc.enter (Wl.b0 0 2 [(37,v10),(38,v11)] ?_)))
   refine Wl.c 2 [(39,(.str f))] (@h1 (some 1)) ?_
   refine Wl.b0 3 4 [(13,(.str f))] ?_
   refine Wl.dn 4 (Wc.seq (Wc.enter (Wl.b0 0 2 [(40,v10),(41,v12)] ?_)))
   refine Wl.c 2 [(42,(.str f))] (@h2 (some 1)) ?_
   refine Wl.b0 3 4 [(14,(.str f))] ?_
   refine Wl.dn 4 (Wc.seq (Wc.enter (Wl.b0 0 7 [(44,(.bool true)),(47,(.bool false)),(48,v7),(49,v11)] ?_)))
   refine Wl.c 7 [(50,(.bool true))] (@hfa) ?_
   refine Wl.b0 8 15 [(53,(.bool false)),(57,(.bool (decide (f = f))))] ?_
   refine Wl.k 57 (.bool (decide (f = f))) (.bool true) (by have e:=decide_eq_true (show f = f from (by rfl)); simp only [e] <;> rfl) ?_
   refine Wl.b0 15 22 [(64,(.bool (decide (f = f))))] ?_
   refine Wl.k 64 (.bool (decide (f = f))) (.bool true) (by have e:=decide_eq_true (show f = f from (by rfl)); simp only [e] <;> rfl) ?_
   refine Wl.b0 22 24 [(65,v7),(66,v11)] ?_
   refine Wl.c 24 [(67,(.bool true))] (@hfa) ?_
   refine Wl.b0 25 29 [(69,(.bool false)),(70,v7),(71,v12)] ?_
   refine Wl.c 29 [(72,(.bool true))] (@hfb) ?_
   refine Wl.b0 30 38 [(75,(.bool true)),(78,(.bool false)),(79,v7),(80,v11)] ?_
   refine Wl.c 38 [(81,(.bool true))] (@hfa) ?_
   refine Wl.b0 39 62 [(6,(.bool true))] ?_
   refine Wl.dn 62 (Wc.ret ?_)
   refine retX.mk (.bool true) ⟨rfl,rfl⟩ (by kernel_rfl) ?_
   kernel_rfl
  rw [ef a (by omega),decide_eq_false hF] at hfa
  obtain ⟨B,hB⟩:∃ B,B = fitsOne d 0 b:=⟨_,rfl⟩
  rw [← hB] at hfb
  have hwf:hasFeed (flatD d) = false → a < (wide (flatD d):Int):=fun q => by
   have hn:(10:UInt8) ∉ flatD d:=fun e => by rw [(hasFeed_iff _).2 e] at q; cases q
   have:=firstLine_none hn []
   rw [List.append_nil,show firstLine [] = [] by simp [firstLine,linesOf],List.append_nil] at this
   rw [this] at hF; omega
  rw [ha] at h1 hfa hwf
  rw [hb] at h2 hfb
  generalize layD (min (k:Int) j) (grp d) = x at *
  generalize layD (max (k:Int) j) (grp d) = y at *
  clear ef hF hB
  generalize flatD d = f at *
  by_cases hx:x = f
  ·subst hx
   cases hfe:hasFeed x with
   | true =>
    rw [hfe] at hw1
    refine Wc.seq (Wc.wn0 [(0,(.osl 1 (List.map bV l))),(1,(.int .u8 (k:Int))),(2,(.int .u8 (j:Int))),(6,(.bool false))] Heap.empty ?_)
    refine Wc.seq (Wc.enter (Wl.b0 0 1 [(15,(.osl 1 (List.map bV l)))] ?_))
    let v13:V:=(.agg [(.int .i64 (d.kind)),(.str (d.text)),(.int .i64 (d.n)),(.osl 4 (esD d))])
    refine Wl.c 1 [(16,v13)] (@hdoc) ?_
    let v14:Obj:=.row 0 26 4 0 (some 1) [v13]
    refine Wl.bn0 2 4 [(7,(.ptr 0 0 0))] (hp [v14]) ?_
    refine Wl.dn 4 (Wc.seq (Wc.seq (Wc.enter (Wl.b0 0 1 [(17,v13)] ?_))))
    refine Wl.c 1 [(18,(.bool true))] (@hright) ?_
    refine Wl.b0 2 3 [(19,(.bool false))] ?_
    refine Wl.dn 3 (Wc.cf (Wc.skip (Wc.seq ?_)))
    let v15:V:=(.gsl 4 [v13] (some 1))
    let v16:V:=(.agg [(.int .i64 6),(.str []),(.int .i64 0),v15])
    refine Wc.wn0 [(8,(.ptr 1 0 0))] (hp [v14,.row 0 26 4 0 (some 1) [v16]]) ?_
    refine Wc.seq ?_
    let v17:V:=(.int .i64 (min (k:Int) (j:Int)))
    refine Wc.w [(9,v17)] [(i64r (min (k:Int) (j:Int)))] (.cons (by omega) .nil) ?_
    refine Wc.seq ?_
    let v18:V:=(.int .i64 (max (k:Int) (j:Int)))
    refine Wc.w [(10,v18)] [(i64r (max (k:Int) (j:Int)))] (.cons (by omega) .nil) ?_
    refine Wc.seq (Wc.enter (Wl.b0 0 1 [(33,v13)] ?_))
    refine Wl.c 1 [(34,(.tup [(.str x),(.bool true)]))] (@hfl) ?_
    refine Wl.b0 2 7 [(11,(.str x)),(12,(.bool true))] ?_
    refine Wl.dn 7 (Wc.seq (Wc.enter (Wl.b0 0 2 [(37,v16),(38,v17)] ?_)))
    refine Wl.c 2 [(39,(.str x))] (@h1 (some 1)) ?_
    refine Wl.b0 3 4 [(13,(.str x))] ?_
    refine Wl.dn 4 (Wc.seq (Wc.enter (Wl.b0 0 2 [(40,v16),(41,v18)] ?_)))
    refine Wl.c 2 [(42,(.str y))] (@h2 (some 1)) ?_
    refine Wl.b0 3 4 [(14,(.str y))] ?_
    refine Wl.dn 4 (Wc.seq (Wc.enter (Wl.b0 0 7 [(44,(.bool true)),(47,(.bool false)),(48,v13),(49,v17)] ?_)))
    refine Wl.c 7 [(50,(.bool false))] (@hfa) ?_
    refine Wl.b0 8 24 [(64,(.bool true)),(65,v13),(66,v17)] ?_
    refine Wl.c 24 [(67,(.bool false))] (@hfa) ?_
    refine Wl.b0 25 38 [(75,(.bool true)),(78,(.bool false)),(79,v13),(80,v17)] ?_
    refine Wl.c 38 [(81,(.bool false))] (@hfa) ?_
    refine Wl.b0 39 46 [(88,(.bool (!decide (x = x))))] ?_
    refine Wl.k 88 (.bool (!decide (x = x))) (.bool false) (by have e:=decide_eq_true (show x = x from (by rfl)); simp only [e] <;> rfl) ?_
    refine Wl.b0 46 51 [(93,(.bool (decide (min (k:Int) (j:Int) = max (k:Int) (j:Int)))))] ?_
    refine Wl.split (p:=min (k:Int) (j:Int) = max (k:Int) (j:Int)) (fun c2 => ?_) (fun c2 => ?_)
    ·refine Wl.k 93 (.bool (decide (min (k:Int) (j:Int) = max (k:Int) (j:Int)))) (.bool true) (by have e:=decide_eq_true c2; simp only [e] <;> rfl) ?_
     refine Wl.b0 51 62 [(6,(.bool true))] ?_
     refine Wl.dn 62 (Wc.ret ?_)
     refine retX.mk (.bool true) ⟨rfl,rfl⟩ (by kernel_rfl) ?_
     kernel_rfl
    refine Wl.k 93 (.bool (decide (min (k:Int) (j:Int) = max (k:Int) (j:Int)))) (.bool false) (by have e:=decide_eq_false c2; simp only [e] <;> rfl) ?_
    refine Wl.b0 51 52 [(94,(.str x))] ?_
    refine Wl.c 52 [(95,(.bool true))] (@hw1) ?_
    refine Wl.b0 53 62 [(6,(.bool true))] ?_
    refine Wl.dn 62 (Wc.ret ?_)
    refine retX.mk (.bool true) ⟨rfl,rfl⟩ (by kernel_rfl) ?_
    kernel_rfl
   | false =>
    rw [hfe] at hw1
    have hwf:=hwf hfe
    refine Wc.seq (Wc.wn0 [(0,(.osl 1 (List.map bV l))),(1,(.int .u8 (k:Int))),(2,(.int .u8 (j:Int))),(6,(.bool false))] Heap.empty ?_)
    refine Wc.seq (Wc.enter (Wl.b0 0 1 [(15,(.osl 1 (List.map bV l)))] ?_))
    refine Wl.c 1 [(16,(.agg [(.int .i64 (d.kind)),(.str (d.text)),(.int .i64 (d.n)),(.osl 4 (esD d))]))] (@hdoc) ?_
    refine Wl.bn0 2 4 [(7,(.ptr 0 0 0))] (hp [.row 0 26 4 0 (some 1) [(.agg [(.int .i64 (d.kind)),(.str (d.text)),(.int .i64 (d.n)),(.osl 4 (esD d))])]]) ?_
    refine Wl.dn 4 (Wc.seq (Wc.seq (Wc.enter (Wl.b0 0 1 [(17,(.agg [(.int .i64 (d.kind)),(.str (d.text)),(.int .i64 (d.n)),(.osl 4 (esD d))]))] ?_))))
    refine Wl.c 1 [(18,(.bool true))] (@hright) ?_
    refine Wl.b0 2 3 [(19,(.bool false))] ?_
    refine Wl.dn 3 (Wc.cf (Wc.skip (Wc.seq (Wc.wn0 [(8,(.ptr 1 0 0))] (hp [.row 0 26 4 0 (some 1) [(.agg [(.int .i64 (d.kind)),(.str (d.text)),(.int .i64 (d.n)),(.osl 4 (esD d))])],.row 0 26 4 0 (some 1) [(.agg [(.int .i64 6),(.str []),(.int .i64 0),(.gsl 4 [(.agg [(.int .i64 (d.kind)),(.str (d.text)),(.int .i64 (d.n)),(.osl 4 (esD d))])] (some 1))])]]) ?_))))
    refine Wc.seq (Wc.w [(9,(.int .i64 (min (k:Int) (j:Int))))] [(i64r (min (k:Int) (j:Int)))] (.cons (by omega) .nil) ?_)
    refine Wc.seq (Wc.w [(10,(.int .i64 (max (k:Int) (j:Int))))] [(i64r (max (k:Int) (j:Int)))] (.cons (by omega) .nil) ?_)
    refine Wc.seq (Wc.enter (Wl.b0 0 1 [(33,(.agg [(.int .i64 (d.kind)),(.str (d.text)),(.int .i64 (d.n)),(.osl 4 (esD d))]))] ?_))
    refine Wl.c 1 [(34,(.tup [(.str x),(.bool true)]))] (@hfl) ?_
    refine Wl.b0 2 7 [(11,(.str x)),(12,(.bool true))] ?_
    refine Wl.dn 7 (Wc.seq (Wc.enter (Wl.b0 0 2 [(37,(.agg [(.int .i64 6),(.str []),(.int .i64 0),(.gsl 4 [(.agg [(.int .i64 (d.kind)),(.str (d.text)),(.int .i64 (d.n)),(.osl 4 (esD d))])] (some 1))])),(38,(.int .i64 (min (k:Int) (j:Int))))] ?_)))
    refine Wl.c 2 [(39,(.str x))] (@h1 (some 1)) ?_
    refine Wl.b0 3 4 [(13,(.str x))] ?_
    refine Wl.dn 4 (Wc.seq (Wc.enter (Wl.b0 0 2 [(40,(.agg [(.int .i64 6),(.str []),(.int .i64 0),(.gsl 4 [(.agg [(.int .i64 (d.kind)),(.str (d.text)),(.int .i64 (d.n)),(.osl 4 (esD d))])] (some 1))])),(41,(.int .i64 (max (k:Int) (j:Int))))] ?_)))
    refine Wl.c 2 [(42,(.str y))] (@h2 (some 1)) ?_
    refine Wl.b0 3 4 [(14,(.str y))] ?_
    refine Wl.dn 4 (Wc.seq (Wc.enter (Wl.b0 0 7 [(44,(.bool true)),(47,(.bool false)),(48,(.agg [(.int .i64 (d.kind)),(.str (d.text)),(.int .i64 (d.n)),(.osl 4 (esD d))])),(49,(.int .i64 (min (k:Int) (j:Int))))] ?_)))
    refine Wl.c 7 [(50,(.bool false))] (@hfa) ?_
    refine Wl.b0 8 24 [(64,(.bool true)),(65,(.agg [(.int .i64 (d.kind)),(.str (d.text)),(.int .i64 (d.n)),(.osl 4 (esD d))])),(66,(.int .i64 (min (k:Int) (j:Int))))] ?_
    refine Wl.c 24 [(67,(.bool false))] (@hfa) ?_
    refine Wl.b0 25 38 [(75,(.bool true)),(78,(.bool false)),(79,(.agg [(.int .i64 (d.kind)),(.str (d.text)),(.int .i64 (d.n)),(.osl 4 (esD d))])),(80,(.int .i64 (min (k:Int) (j:Int))))] ?_
    refine Wl.c 38 [(81,(.bool false))] (@hfa) ?_
    refine Wl.b0 39 46 [(88,(.bool (!decide (x = x))))] ?_
    refine Wl.k 88 (.bool (!decide (x = x))) (.bool false) (by have e:=decide_eq_true (show x = x from (by rfl)); simp only [e] <;> rfl) ?_
    refine Wl.b0 46 51 [(93,(.bool (decide (min (k:Int) (j:Int) = max (k:Int) (j:Int)))))] ?_
    refine Wl.split (p:=min (k:Int) (j:Int) = max (k:Int) (j:Int)) (fun c2 => ?_) (fun c2 => ?_)
    ·refine Wl.k 93 (.bool (decide (min (k:Int) (j:Int) = max (k:Int) (j:Int)))) (.bool true) (by have e:=decide_eq_true c2; simp only [e] <;> rfl) ?_
     refine Wl.b0 51 62 [(6,(.bool true))] ?_
     refine Wl.dn 62 (Wc.ret ?_)
     refine retX.mk (.bool true) ⟨rfl,rfl⟩ (by kernel_rfl) ?_
     kernel_rfl
    refine Wl.k 93 (.bool (decide (min (k:Int) (j:Int) = max (k:Int) (j:Int)))) (.bool false) (by have e:=decide_eq_false c2; simp only [e] <;> rfl) ?_
    refine Wl.b0 51 52 [(94,(.str x))] ?_
    refine Wl.c 52 [(95,(.bool false))] (@hw1) ?_
    refine Wl.b0 53 56 [(97,(.bool false)),(98,(.str x))] ?_
    refine Wl.c 56 [(99,(.int .i64 ((wide x:Int))))] (@hw2) ?_
    refine Wl.b0 57 62 [(6,(.bool (decide (min (k:Int) (j:Int) < (wide x:Int)))))] ?_
    refine Wl.dn 62 (Wc.ret ?_)
    refine retX.mk (.bool (decide (min (k:Int) (j:Int) < (wide x:Int)))) ⟨rfl,rfl⟩ (by kernel_rfl) ?_
    rw [decide_eq_true hwf]
  refine Wc.seq (Wc.wn0 [(0,(.osl 1 (List.map bV l))),(1,(.int .u8 (k:Int))),(2,(.int .u8 (j:Int))),(6,(.bool false))] Heap.empty ?_)
  refine Wc.seq (Wc.enter (Wl.b0 0 1 [(15,(.osl 1 (List.map bV l)))] ?_))
  let v19:V:=(.agg [(.int .i64 (d.kind)),(.str (d.text)),(.int .i64 (d.n)),(.osl 4 (esD d))])
  refine Wl.c 1 [(16,v19)] (@hdoc) ?_
  let v20:Obj:=.row 0 26 4 0 (some 1) [v19]
  refine Wl.bn0 2 4 [(7,(.ptr 0 0 0))] (hp [v20]) ?_
  refine Wl.dn 4 (Wc.seq (Wc.seq (Wc.enter (Wl.b0 0 1 [(17,v19)] ?_))))
  refine Wl.c 1 [(18,(.bool true))] (@hright) ?_
  refine Wl.b0 2 3 [(19,(.bool false))] ?_
  refine Wl.dn 3 (Wc.cf (Wc.skip (Wc.seq ?_)))
  let v21:V:=(.gsl 4 [v19] (some 1))
  let v22:V:=(.agg [(.int .i64 6),(.str []),(.int .i64 0),v21])
  refine Wc.wn0 [(8,(.ptr 1 0 0))] (hp [v20,.row 0 26 4 0 (some 1) [v22]]) ?_
  refine Wc.seq ?_
  let v23:V:=(.int .i64 (min (k:Int) (j:Int)))
  refine Wc.w [(9,v23)] [(i64r (min (k:Int) (j:Int)))] (.cons (by omega) .nil) ?_
  refine Wc.seq ?_
  let v24:V:=(.int .i64 (max (k:Int) (j:Int)))
  refine Wc.w [(10,v24)] [(i64r (max (k:Int) (j:Int)))] (.cons (by omega) .nil) ?_
  refine Wc.seq (Wc.enter (Wl.b0 0 1 [(33,v19)] ?_))
  refine Wl.c 1 [(34,(.tup [(.str f),(.bool true)]))] (@hfl) ?_
  refine Wl.b0 2 7 [(11,(.str f)),(12,(.bool true))] ?_
  refine Wl.dn 7 (Wc.seq (Wc.enter (Wl.b0 0 2 [(37,v22),(38,v23)] ?_)))
  refine Wl.c 2 [(39,(.str x))] (@h1 (some 1)) ?_
  refine Wl.b0 3 4 [(13,(.str x))] ?_
  refine Wl.dn 4 (Wc.seq (Wc.enter (Wl.b0 0 2 [(40,v22),(41,v24)] ?_)))
  refine Wl.c 2 [(42,(.str y))] (@h2 (some 1)) ?_
  refine Wl.b0 3 4 [(14,(.str y))] ?_
  refine Wl.dn 4 (Wc.seq (Wc.enter (Wl.b0 0 7 [(44,(.bool true)),(47,(.bool false)),(48,v19),(49,v23)] ?_)))
  refine Wl.c 7 [(50,(.bool false))] (@hfa) ?_
  refine Wl.b0 8 24 [(64,(.bool true)),(65,v19),(66,v23)] ?_
  refine Wl.c 24 [(67,(.bool false))] (@hfa) ?_
  refine Wl.b0 25 38 [(75,(.bool true)),(78,(.bool false)),(79,v19),(80,v23)] ?_
  refine Wl.c 38 [(81,(.bool false))] (@hfa) ?_
  refine Wl.b0 39 46 [(88,(.bool (!decide (x = f))))] ?_
  refine Wl.k 88 (.bool (!decide (x = f))) (.bool true) (by have e:=decide_eq_false (show ¬ (x = f) from hx); simp only [e] <;> rfl) ?_
  refine Wl.b0 46 62 [(6,(.bool true))] ?_
  refine Wl.dn 62 (Wc.ret ?_)
  refine retX.mk (.bool true) ⟨rfl,rfl⟩ (by kernel_rfl) ?_
  kernel_rfl
 rw [decide_eq_false hr] at hright
 refine Wc.seq (Wc.wn0 [(0,(.osl 1 (List.map bV l))),(1,(.int .u8 (k:Int))),(2,(.int .u8 (j:Int))),(6,(.bool false))] Heap.empty ?_)
 refine Wc.seq (Wc.enter (Wl.b0 0 1 [(15,(.osl 1 (List.map bV l)))] ?_))
 let v25:V:=(.agg [(.int .i64 (d.kind)),(.str (d.text)),(.int .i64 (d.n)),(.osl 4 (esD d))])
 refine Wl.c 1 [(16,v25)] (@hdoc) ?_
 refine Wl.bn0 2 4 [(7,(.ptr 0 0 0))] (hp [.row 0 26 4 0 (some 1) [v25]]) ?_
 refine Wl.dn 4 (Wc.seq (Wc.seq (Wc.enter (Wl.b0 0 1 [(17,v25)] ?_))))
 refine Wl.c 1 [(18,(.bool false))] (@hright) ?_
 refine Wl.b0 2 3 [(19,(.bool true))] ?_
 refine Wl.dn 3 (Wc.ct (Wc.seq (Wc.w0 [(6,(.bool true))] ?_)))
 refine Wc.ret ?_
 refine retX.mk (.bool true) ⟨rfl,rfl⟩ (by kernel_rfl) ?_
 kernel_rfl
end Go.AM
namespace Go.AM
open Go.Proofs
set_option maxRecDepth 100000
set_option maxHeartbeats 4000000
theorem fitFew_walk (x:V) (l:List UInt8) (hx:Bs x l) (k:Nat) (hk:k < 256) (j:Nat) (hj:j < 256):Cx Tryd.prog EU 6 [x,.int .u8 (k:Int),.int .u8 (j:Int)] Heap.empty (fun v _ => v = .bool true) :=
 .args (.cons hx.osl (.cons (.refl _) (.cons (.refl _) .nil))) (fitFew_go l k j hk hj)
end Go.AM
