/-
  WHAT FUNCTIONS OF THE PROGRAM COME TO: walked over states of which a part is known. No condition but what each theorem says of its arguments.
-/
import Derived.Test.YtejbaikaiifpaaaDoorLaysP6
namespace Go.AM
open Go.Proofs
set_option maxRecDepth 100000
set_option maxHeartbeats 4000000
theorem ja1:q30 Tryd.prog 26=some true:=by kernel_rfl
theorem ja8:size Tryd.prog 26=4:=by kernel_rfl
theorem ldKid {h:Heap} (d:Dc) (k:Nat) (hk:k<d.kids.length):load Tryd.prog h 26 (.gptr 4 (esD d) (k*4))=some (encD (d.kids.getD k dc0)) :=
 zd8 ja1 ja8 (by omega) (by rw [qg8];exact z60 encD d.kids dc0 hk) rfl
theorem ja4:∀ (m:Nat),m≤100000→∀ (d:Dc),szD d≤m→j7 d→Cp Tryd.prog EU 38 [encD d] (.bool (k8 d)):=by
 intro m
 induction m with
 | zero=>intro _ d h;have:=q07 d;omega
 | succ m IH =>
 intro hm d hd hr
 have hl:=qp2 d
 have hlen:=qc3 d
 obtain ⟨h0,h7⟩:=qn1 hr
 have hk:∀ k,k<d.kids.length→Cp Tryd.prog EU 38 [encD (d.kids.getD k dc0)] (.bool (k8 (d.kids.getD k dc0))):=fun k hk=>IH (by omega) _ (by have:=qg0 d hk;omega) (zm9 hr hk)
 clear IH
 refine Cp.body (fn:=Tryd.f38) Tryd.func38 rfl (by kernel_rfl) ?_
 refine Wc.seq (Wc.wn0 [(0,(.agg [(.int .i64 (d.kind)),(.str (d.text)),(.int .i64 (d.n)),(.osl 4 (esD d))])),(1,(.ptr 0 0 0)),(2,(.bool false))] (hp [.row 0 26 4 0 (some 1) [(.agg [(.int .i64 (d.kind)),(.str (d.text)),(.int .i64 (d.n)),(.osl 4 (esD d))])]]) ?_)
 refine Wc.seq (Wc.seq (Wc.w0 [(6,(.bool (decide (d.kind=4))))] ?_))
 refine Wc.cq (p:=d.kind=4) (fun c1=>?_) (fun c1=>?_)
 ·refine Wc.seq (Wc.w0 [(2,(.bool true))] ?_)
  refine Wc.ret ?_
  refine retX.mk (.bool true) ⟨rfl,rfl⟩ (by kernel_rfl) ?_
  rw [z23,decide_eq_true c1];rfl
 refine Wc.skip (Wc.seq (Wc.seq (Wc.w0 [(3,(.int .i64 0))] ?_)))
 refine Wc.block ?_
 refine Wc.loop (α:=Nat) (fun i=>(base 38 30).on [(1,(.ptr 0 0 0)),(3,(.int .i64 (i:Int)))]) (fun _=>(hp [.row 0 26 4 0 (some 1) [(.agg [(.int .i64 (d.kind)),(.str (d.text)),(.int .i64 (d.n)),(.osl 4 (esD d))])]])) (fun i=>i≤d.kids.length∧(d.kids.take i).any k8=false) (fun i=>d.kids.length-i) 0 (Le.on [1,3] (by kernel_rfl)) rfl ⟨Nat.zero_le _,rfl⟩ ?_
 rintro i ⟨hi,hn⟩
 refine Wc.seq (Wc.seq (Wc.enter (Wl.bn0 0 6 [(1,(.ptr 0 0 0)),(3,(.int .i64 (i:Int))),(12,(.bool (decide ((i:Int)<(List.length (esD d):Int)))))] (hp [.row 0 26 4 0 (some 1) [(.agg [(.int .i64 (d.kind)),(.str (d.text)),(.int .i64 (d.n)),(.osl 4 (esD d))])]]) ?_)))
 let v1:V:=(.agg [(.int .i64 (d.kind)),(.str (d.text)),(.int .i64 (d.n)),(.osl 4 (esD d))])
 let v2:Obj:=.row 0 26 4 0 (some 1) [v1]
 let v3:Heap:=(hp [v2])
 refine Wl.join (b:=(base 38 30)) (p:=(i:Int)<(List.length (esD d):Int)) [(1,(.ptr 0 0 0)),(3,(.int .i64 (i:Int))),(21,(.bool (decide (((i:Int)<(List.length (esD d):Int))∧(5≤d.kind∧d.kind≤7)))))] v3 (fun c1=>?_) (fun c1=>?_) ?_
 ·refine Wl.k 12 (.bool (decide ((i:Int)<(List.length (esD d):Int)))) (.bool true) (by have e:=decide_eq_true c1;simp only [e] <;> rfl) ?_
  refine Wl.b0 6 11 [(17,(.bool (decide (5≤d.kind))))] ?_
  refine Wl.join (b:=(base 38 30)) (p:=5≤d.kind) [(1,(.ptr 0 0 0)),(3,(.int .i64 (i:Int))),(21,(.bool (decide ((5≤d.kind)∧(d.kind≤7)))))] v3 (fun c3=>?_) (fun c3=>?_) ?_
  ·refine Wl.k 17 (.bool (decide (5≤d.kind))) (.bool true) (by have e:=decide_eq_true c3;simp only [e] <;> rfl) ?_
   refine Wl.b0 11 15 [(21,(.bool (decide (d.kind≤7))))] ?_
   refine Wl.dn 15 ?_
   exact ⟨Le.on' [1,3,21] [(1,(.ptr 0 0 0)),(3,(.int .i64 ((↑i:Int)))),(21,(.bool (decide (d.kind≤7))))] (by kernel_rfl) (by rw [qy8 c3] <;> rfl),by kernel_rfl⟩
  ·refine Wl.k 17 (.bool (decide (5≤d.kind))) (.bool false) (by have e:=decide_eq_false c3;simp only [e] <;> rfl) ?_
   refine Wl.b0 11 15 [(21,(.bool false))] ?_
   refine Wl.dn 15 ?_
   exact ⟨Le.on' [1,3,21] [(1,(.ptr 0 0 0)),(3,(.int .i64 ((↑i:Int)))),(21,(.bool false))] (by kernel_rfl) (by rw [qo2 c3] <;> rfl),by kernel_rfl⟩
  exact ⟨Le.on' [1,3,21] [(1,(.ptr 0 0 0)),(3,(.int .i64 ((↑i:Int)))),(21,(.bool (decide (5≤d.kind∧d.kind≤7))))] (by kernel_rfl) (by rw [qy8 c1] <;> rfl),by kernel_rfl⟩
 ·refine Wl.k 12 (.bool (decide ((i:Int)<(List.length (esD d):Int)))) (.bool false) (by have e:=decide_eq_false c1;simp only [e] <;> rfl) ?_
  refine Wl.b0 6 15 [(21,(.bool false))] ?_
  refine Wl.dn 15 ?_
  exact ⟨Le.on' [1,3,21] [(1,(.ptr 0 0 0)),(3,(.int .i64 ((↑i:Int)))),(21,(.bool false))] (by kernel_rfl) (by rw [qo2 c1] <;> rfl),by kernel_rfl⟩
 refine Wc.cq (p:=(i:Int)<(List.length (esD d):Int)∧5≤d.kind∧d.kind≤7) (fun c4=>?_) (fun c4=>?_)
 ·refine Wc.skip (Wc.seq (Wc.block (Wc.seq (Wc.enter (Wl.bs 0 4 [(21,(.bool (decide ((i:Int)<(List.length (esD d):Int)∧5≤d.kind∧d.kind≤7)))),(27,(.gptr 4 (esD d) (i*4)))] [((0≤(i:Int))∧((i:Int)<(List.length (esD d):Int)))] (.cons (by omega) .nil) ?_)))))
  refine Wl.l 4 [(28,(.agg [(.int .i64 ((List.getD d.kids i dc0).kind)),(.str ((List.getD d.kids i dc0).text)),(.int .i64 ((List.getD d.kids i dc0).n)),(.osl 4 (esD (List.getD d.kids i dc0)))]))] (@Go.AM.ldKid (hp [Obj.row 0 26 4 0 (some 1) [V.agg [V.int .i64 d.kind,V.str d.text,V.int .i64 d.n,V.osl 4 (esD d)]]]) (d) (i) (by omega)) ?_
  refine Wl.c 5 [(29,(.bool (k8 (List.getD d.kids i dc0))))] (@hk (i) (by omega)) ?_
  refine Wl.dn 6 ?_
  refine Wc.cond (k8 (List.getD d.kids i dc0)) (by kernel_rfl) (by kernel_rfl) (fun c5=>?_) (fun c5=>?_)
  ·refine Wc.seq (Wc.wn0 [(1,(.ptr 0 0 0)),(2,(.bool true)),(3,(.int .i64 (i:Int))),(21,(.bool (decide ((i:Int)<(List.length (esD d):Int)∧5≤d.kind∧d.kind≤7)))),(29,(.bool (k8 (List.getD d.kids i dc0))))] (hp [.row 0 26 4 0 (some 1) [(.agg [(.int .i64 (d.kind)),(.str (d.text)),(.int .i64 (d.n)),(.osl 4 (esD d))])]]) ?_)
   refine Wc.ret (z8.ret ?_)
   refine z8.ret ?_
   refine retX.mk (.bool true) ⟨rfl,rfl⟩ (by kernel_rfl) ?_
   have hi':i<d.kids.length:=by omega
   rw [z23,decide_eq_true (show 5≤d.kind by omega),show d.kids.any k8=true from List.any_eq_true.2 ⟨_,zd1 _ hi',c5⟩,Bool.and_self,Bool.or_true];rfl
  refine Wc.skip (Wc.wn [(1,(.ptr 0 0 0)),(3,(.int .i64 ((i:Int)+1))),(21,(.bool (decide ((i:Int)<(List.length (esD d):Int)∧5≤d.kind∧d.kind≤7)))),(29,(.bool (k8 (List.getD d.kids i dc0))))] v3 [(i64r ((i:Int)+1))] (.cons (by omega) .nil) ?_)
  have hi':i<d.kids.length:=by omega
  exact ⟨i+1,Le.on [1,3] (by kernel_rfl),rfl,⟨by omega,by rw [xs6 k8 _ dc0 i hi',hn,c5];rfl⟩,by omega⟩
 refine Wc.exit (z8.here (Wc.seq (Wc.w0 [(2,(.bool false)),(21,(.bool (decide ((i:Int)<(List.length (esD d):Int)∧5≤d.kind∧d.kind≤7))))] ?_)))
 refine Wc.ret ?_
 refine retX.mk (.bool false) ⟨rfl,rfl⟩ (by kernel_rfl) ?_
 have e:(decide (5≤d.kind)&&d.kids.any k8)=false:=by
  by_cases h5:5≤d.kind
  ·have:i=d.kids.length:=by omega
   rw [this,List.take_length] at hn
   rw [hn,Bool.and_false]
  rw [decide_eq_false h5];rfl
 rw [z23,decide_eq_false c1,e];rfl
theorem ja0:∀ (m:Nat),m≤100000→∀ (d:Dc),szD d≤m→j7 d→Cp Tryd.prog EU 39 [encD d] (.str (x8 d)):=by
 intro m
 induction m with
 | zero=>intro _ d h;have:=q07 d;omega
 | succ m IH =>
 intro hm d hd hr
 have hl:=qp2 d
 have hlen:=qc3 d
 have htx:=y3 d
 obtain ⟨h0,h7⟩:=qn1 hr
 have hk:∀ k,k<d.kids.length→Cp Tryd.prog EU 39 [encD (d.kids.getD k dc0)] (.str (x8 (d.kids.getD k dc0))):=fun k hk=>IH (by omega) _ (by have:=qg0 d hk;omega) (zm9 hr hk)
 clear IH
 refine Cp.body (fn:=Tryd.f39) Tryd.func39 rfl (by kernel_rfl) ?_
 refine Wc.seq (Wc.wn0 [(0,(.agg [(.int .i64 (d.kind)),(.str (d.text)),(.int .i64 (d.n)),(.osl 4 (esD d))])),(1,(.ptr 0 0 0)),(2,(.str []))] (hp [.row 0 26 4 0 (some 1) [(.agg [(.int .i64 (d.kind)),(.str (d.text)),(.int .i64 (d.n)),(.osl 4 (esD d))])]]) ?_)
 refine Wc.seq (Wc.w0 [(3,(.str []))] ?_)
 refine Wc.seq (Wc.seq (Wc.w0 [(6,(.int .i64 (d.kind)))] ?_))
 refine Wc.block (Wc.seq (Wc.w0 [(7,(.bool (decide (d.kind=1))))] ?_))
 refine Wc.cq (p:=d.kind=1) (fun c1=>?_) (fun c1=>?_)
 ·refine Wc.w0 [(3,(.str (d.text)))] ?_
  refine Wc.seq (Wc.seq (Wc.w0 [(4,(.int .i64 0))] ?_))
  refine Wc.block (Wc.unroll (Wc.seq (Wc.seq (Wc.enter (Wl.bn0 0 6 [(0,(.agg [(.int .i64 (d.kind)),(.str (d.text)),(.int .i64 (d.n)),(.osl 4 (esD d))])),(1,(.ptr 0 0 0)),(2,(.str [])),(3,(.str (d.text))),(4,(.int .i64 0)),(6,(.int .i64 (d.kind))),(7,(.bool (decide (d.kind=1)))),(18,(.bool (decide (0<(List.length (esD d):Int)))))] (hp [.row 0 26 4 0 (some 1) [(.agg [(.int .i64 (d.kind)),(.str (d.text)),(.int .i64 (d.n)),(.osl 4 (esD d))])]]) ?_)))))
  refine Wl.join (b:=(base 39 39)) (p:=0<(List.length (esD d):Int)) [(0,(.agg [(.int .i64 (d.kind)),(.str (d.text)),(.int .i64 (d.n)),(.osl 4 (esD d))])),(1,(.ptr 0 0 0)),(2,(.str [])),(3,(.str (d.text))),(4,(.int .i64 0)),(6,(.int .i64 (d.kind))),(7,(.bool (decide (d.kind=1)))),(27,(.bool false))] (hp [.row 0 26 4 0 (some 1) [(.agg [(.int .i64 (d.kind)),(.str (d.text)),(.int .i64 (d.n)),(.osl 4 (esD d))])]]) (fun c1=>?_) (fun c1=>?_) ?_
  ·refine Wl.k 18 (.bool (decide (0<(List.length (esD d):Int)))) (.bool true) (by have e:=decide_eq_true c1;simp only [e] <;> rfl) ?_
   refine Wl.b0 6 11 [(23,(.bool (decide (5≤d.kind))))] ?_
   refine Wl.k 23 (.bool (decide (5≤d.kind))) (.bool false) (by have e:=decide_eq_false (show ¬ (5≤d.kind) from (by omega));simp only [e] <;> rfl) ?_
   refine Wl.b0 11 15 [(27,(.bool false))] ?_
   refine Wl.dn 15 ?_
   exact ⟨Le.on [0,1,2,3,4,6,7,27] (by kernel_rfl),by kernel_rfl⟩
  ·refine Wl.k 18 (.bool (decide (0<(List.length (esD d):Int)))) (.bool false) (by have e:=decide_eq_false c1;simp only [e] <;> rfl) ?_
   refine Wl.b0 6 15 [(27,(.bool false))] ?_
   refine Wl.dn 15 ?_
   exact ⟨Le.on [0,1,2,3,4,6,7,27] (by kernel_rfl),by kernel_rfl⟩
  refine Wc.cf (Wc.exit (z8.here (Wc.seq (Wc.w0 [(2,(.str (d.text)))] ?_))))
  refine Wc.ret ?_
  refine retX.mk (.str (d.text)) ⟨rfl,rfl⟩ (by kernel_rfl) ?_
  rw [qq7,if_pos c1,if_neg (by omega),List.append_nil];rfl
 refine Wc.seq (Wc.w0 [(11,(.bool (decide (d.kind=2))))] ?_)
 refine Wc.cq (p:=d.kind=2) (fun c2=>?_) (fun c2=>?_)
 ·refine Wc.w0 [(3,(.str [32]))] ?_
  refine Wc.seq (Wc.seq (Wc.w0 [(4,(.int .i64 0))] ?_))
  refine Wc.block (Wc.unroll (Wc.seq (Wc.seq (Wc.enter (Wl.bn0 0 6 [(0,(.agg [(.int .i64 (d.kind)),(.str (d.text)),(.int .i64 (d.n)),(.osl 4 (esD d))])),(1,(.ptr 0 0 0)),(2,(.str [])),(3,(.str [32])),(4,(.int .i64 0)),(6,(.int .i64 (d.kind))),(7,(.bool (decide (d.kind=1)))),(11,(.bool (decide (d.kind=2)))),(18,(.bool (decide (0<(List.length (esD d):Int)))))] (hp [.row 0 26 4 0 (some 1) [(.agg [(.int .i64 (d.kind)),(.str (d.text)),(.int .i64 (d.n)),(.osl 4 (esD d))])]]) ?_)))))
  refine Wl.join (b:=(base 39 39)) (p:=0<(List.length (esD d):Int)) [(0,(.agg [(.int .i64 (d.kind)),(.str (d.text)),(.int .i64 (d.n)),(.osl 4 (esD d))])),(1,(.ptr 0 0 0)),(2,(.str [])),(3,(.str [32])),(4,(.int .i64 0)),(6,(.int .i64 (d.kind))),(7,(.bool (decide (d.kind=1)))),(11,(.bool (decide (d.kind=2)))),(27,(.bool false))] (hp [.row 0 26 4 0 (some 1) [(.agg [(.int .i64 (d.kind)),(.str (d.text)),(.int .i64 (d.n)),(.osl 4 (esD d))])]]) (fun c1=>?_) (fun c1=>?_) ?_
  ·refine Wl.k 18 (.bool (decide (0<(List.length (esD d):Int)))) (.bool true) (by have e:=decide_eq_true c1;simp only [e] <;> rfl) ?_
   refine Wl.b0 6 11 [(23,(.bool (decide (5≤d.kind))))] ?_
   refine Wl.k 23 (.bool (decide (5≤d.kind))) (.bool false) (by have e:=decide_eq_false (show ¬ (5≤d.kind) from (by omega));simp only [e] <;> rfl) ?_
   refine Wl.b0 11 15 [(27,(.bool false))] ?_
   refine Wl.dn 15 ?_
   exact ⟨Le.on [0,1,2,3,4,6,7,11,27] (by kernel_rfl),by kernel_rfl⟩
  ·refine Wl.k 18 (.bool (decide (0<(List.length (esD d):Int)))) (.bool false) (by have e:=decide_eq_false c1;simp only [e] <;> rfl) ?_
   refine Wl.b0 6 15 [(27,(.bool false))] ?_
   refine Wl.dn 15 ?_
   exact ⟨Le.on [0,1,2,3,4,6,7,11,27] (by kernel_rfl),by kernel_rfl⟩
  refine Wc.cf (Wc.exit (z8.here (Wc.seq (Wc.w0 [(2,(.str [32]))] ?_))))
  refine Wc.ret ?_
  refine retX.mk (.str [32]) ⟨rfl,rfl⟩ (by kernel_rfl) ?_
  rw [qq7,if_neg c1,if_pos c2,if_neg (by omega),List.append_nil];rfl
 refine Wc.skip (Wc.seq (Wc.seq (Wc.w0 [(4,(.int .i64 0))] ?_)))
 refine Wc.block ?_
 refine Wc.loop (α:=Nat) (fun i=>(base 39 39).on [(1,(.ptr 0 0 0)),(3,(.str (catK x8 d.kids i))),(4,(.int .i64 (i:Int)))]) (fun _=>(hp [.row 0 26 4 0 (some 1) [(.agg [(.int .i64 (d.kind)),(.str (d.text)),(.int .i64 (d.n)),(.osl 4 (esD d))])]])) (fun i=>i≤d.kids.length) (fun i=>d.kids.length-i) 0 (Le.on [1,3,4] (by kernel_rfl)) rfl (Nat.zero_le _) ?_
 intro i hi
 have hc:=xt2 qf4 d i
 have hw:i<d.kids.length→(x8 (d.kids.getD i dc0)).length≤100000:=fun q=>by have:=qf4 (d.kids.getD i dc0);have:=qg0 d q;omega
 refine Wc.seq (Wc.seq (Wc.enter (Wl.bn0 0 6 [(1,(.ptr 0 0 0)),(3,(.str (catK x8 d.kids i))),(4,(.int .i64 (i:Int))),(18,(.bool (decide ((i:Int)<(List.length (esD d):Int)))))] (hp [.row 0 26 4 0 (some 1) [(.agg [(.int .i64 (d.kind)),(.str (d.text)),(.int .i64 (d.n)),(.osl 4 (esD d))])]]) ?_)))
 let v1:V:=(.agg [(.int .i64 (d.kind)),(.str (d.text)),(.int .i64 (d.n)),(.osl 4 (esD d))])
 let v2:Obj:=.row 0 26 4 0 (some 1) [v1]
 let v3:Heap:=(hp [v2])
 refine Wl.join (b:=(base 39 39)) (p:=(i:Int)<(List.length (esD d):Int)) [(1,(.ptr 0 0 0)),(3,(.str (catK x8 d.kids i))),(4,(.int .i64 (i:Int))),(27,(.bool (decide (((i:Int)<(List.length (esD d):Int))∧(5≤d.kind∧d.kind≤7)))))] v3 (fun c1=>?_) (fun c1=>?_) ?_
 ·refine Wl.k 18 (.bool (decide ((i:Int)<(List.length (esD d):Int)))) (.bool true) (by have e:=decide_eq_true c1;simp only [e] <;> rfl) ?_
  refine Wl.b0 6 11 [(23,(.bool (decide (5≤d.kind))))] ?_
  refine Wl.join (b:=(base 39 39)) (p:=5≤d.kind) [(1,(.ptr 0 0 0)),(3,(.str (catK x8 d.kids i))),(4,(.int .i64 (i:Int))),(27,(.bool (decide ((5≤d.kind)∧(d.kind≤7)))))] v3 (fun c3=>?_) (fun c3=>?_) ?_
  ·refine Wl.k 23 (.bool (decide (5≤d.kind))) (.bool true) (by have e:=decide_eq_true c3;simp only [e] <;> rfl) ?_
   refine Wl.b0 11 15 [(27,(.bool (decide (d.kind≤7))))] ?_
   refine Wl.dn 15 ?_
   exact ⟨Le.on' [1,3,4,27] [(1,(.ptr 0 0 0)),(3,(.str (catK x8 d.kids i))),(4,(.int .i64 ((↑i:Int)))),(27,(.bool (decide (d.kind≤7))))] (by kernel_rfl) (by rw [qy8 c3] <;> rfl),by kernel_rfl⟩
  ·refine Wl.k 23 (.bool (decide (5≤d.kind))) (.bool false) (by have e:=decide_eq_false c3;simp only [e] <;> rfl) ?_
   refine Wl.b0 11 15 [(27,(.bool false))] ?_
   refine Wl.dn 15 ?_
   exact ⟨Le.on' [1,3,4,27] [(1,(.ptr 0 0 0)),(3,(.str (catK x8 d.kids i))),(4,(.int .i64 ((↑i:Int)))),(27,(.bool false))] (by kernel_rfl) (by rw [qo2 c3] <;> rfl),by kernel_rfl⟩
  exact ⟨Le.on' [1,3,4,27] [(1,(.ptr 0 0 0)),(3,(.str (catK x8 d.kids i))),(4,(.int .i64 ((↑i:Int)))),(27,(.bool (decide (5≤d.kind∧d.kind≤7))))] (by kernel_rfl) (by rw [qy8 c1] <;> rfl),by kernel_rfl⟩
 ·refine Wl.k 18 (.bool (decide ((i:Int)<(List.length (esD d):Int)))) (.bool false) (by have e:=decide_eq_false c1;simp only [e] <;> rfl) ?_
  refine Wl.b0 6 15 [(27,(.bool false))] ?_
  refine Wl.dn 15 ?_
  exact ⟨Le.on' [1,3,4,27] [(1,(.ptr 0 0 0)),(3,(.str (catK x8 d.kids i))),(4,(.int .i64 ((↑i:Int)))),(27,(.bool false))] (by kernel_rfl) (by rw [qo2 c1] <;> rfl),by kernel_rfl⟩
 refine Wc.cq (p:=(i:Int)<(List.length (esD d):Int)∧5≤d.kind∧d.kind≤7) (fun c4=>?_) (fun c4=>?_)
 ·refine Wc.skip (Wc.seq (Wc.block (Wc.enter (Wl.bs 0 5 [(27,(.bool (decide ((i:Int)<(List.length (esD d):Int)∧5≤d.kind∧d.kind≤7)))),(30,(.str (catK x8 d.kids i))),(34,(.gptr 4 (esD d) (i*4)))] [((0≤(i:Int))∧((i:Int)<(List.length (esD d):Int)))] (.cons (by omega) .nil) ?_))))
  refine Wl.l 5 [(35,(.agg [(.int .i64 ((List.getD d.kids i dc0).kind)),(.str ((List.getD d.kids i dc0).text)),(.int .i64 ((List.getD d.kids i dc0).n)),(.osl 4 (esD (List.getD d.kids i dc0)))]))] (@Go.AM.ldKid (hp [Obj.row 0 26 4 0 (some 1) [V.agg [V.int .i64 d.kind,V.str d.text,V.int .i64 d.n,V.osl 4 (esD d)]]]) (d) (i) (by omega)) ?_
  refine Wl.c 6 [(36,(.str (x8 (List.getD d.kids i dc0))))] (@hk (i) (by omega)) ?_
  refine Wl.bs 7 9 [(3,(.str (catK x8 d.kids i++x8 (List.getD d.kids i dc0))))] [(List.length (catK x8 d.kids i)+List.length (x8 (List.getD d.kids i dc0))≤1099511627776)] (.cons (by omega) .nil) ?_
  refine Wl.dn 9 (Wc.w [(4,(.int .i64 ((i:Int)+1)))] [(i64r ((i:Int)+1))] (.cons (by omega) .nil) ?_)
  have hi':i<d.kids.length:=by omega
  exact ⟨i+1,Le.on' [1,3,4] [(1,(.ptr 0 0 0)),(3,(.str (catK x8 d.kids i++x8 (d.kids.getD i dc0)))),(4,(.int .i64 ((i:Int)+1)))] (by kernel_rfl) (by rw [xj0 x8 d.kids hi'];rfl),rfl,by omega,by omega⟩
 refine Wc.exit (z8.here (Wc.seq (Wc.w0 [(2,(.str (catK x8 d.kids i))),(27,(.bool (decide ((i:Int)<(List.length (esD d):Int)∧5≤d.kind∧d.kind≤7))))] ?_)))
 refine Wc.ret ?_
 refine retX.mk (.str (catK x8 d.kids i)) ⟨rfl,rfl⟩ (by kernel_rfl) ?_
 rw [qq7,if_neg c1,if_neg c2,List.nil_append]
 by_cases h5:5≤d.kind
 ·have e:i=d.kids.length:=by omega
  rw [if_pos h5,e,xq6];rfl
 have hz:d.kids=[]:=ze5 hr (by omega)
 rw [if_neg h5,hz];simp [catK];rfl
theorem cHardD (d:Dc) (hd:szD d≤100000) (hr:j7 d):Cp Tryd.prog EU 38 [encD d] (.bool (k8 d)):=ja4 100000 (by omega) d hd hr
theorem cFlatD (d:Dc) (hd:szD d≤100000) (hr:j7 d):Cp Tryd.prog EU 39 [encD d] (.str (x8 d)):=ja0 100000 (by omega) d hd hr
theorem x06 (d:Dc) (hd:szD d≤100000) (hr:j7 d):Cp Tryd.prog EU 17 [encD d] (.tup [.str (if k8 d then [] else x8 d),.bool (!k8 d)]):=by
 refine Cp.body (fn:=Tryd.f17) Tryd.func17 rfl (by kernel_rfl) ?_
 refine Wc.seq (Wc.wn0 [(0,(.agg [(.int .i64 (d.kind)),(.str (d.text)),(.int .i64 (d.n)),(.osl 4 (esD d))])),(1,(.ptr 0 0 0)),(2,(.str [])),(3,(.bool false))] (hp [.row 0 26 4 0 (some 1) [(.agg [(.int .i64 (d.kind)),(.str (d.text)),(.int .i64 (d.n)),(.osl 4 (esD d))])]]) ?_)
 refine Wc.seq (Wc.seq (Wc.enter (Wl.b0 0 1 [(4,(.agg [(.int .i64 (d.kind)),(.str (d.text)),(.int .i64 (d.n)),(.osl 4 (esD d))]))] ?_)))
 refine Wl.c 1 [(5,(.bool (k8 d)))] (@Go.AM.cHardD (d) hd hr) ?_
 refine Wl.dn 2 ?_
 refine Wc.cond (k8 d) (by kernel_rfl) (by kernel_rfl) (fun c1=>?_) (fun c1=>?_)
 ·refine Wc.seq (Wc.wn0 [(0,(.agg [(.int .i64 (d.kind)),(.str (d.text)),(.int .i64 (d.n)),(.osl 4 (esD d))])),(1,(.ptr 0 0 0)),(2,(.str [])),(3,(.bool false)),(5,(.bool (k8 d)))] (hp [.row 0 26 4 0 (some 1) [(.agg [(.int .i64 (d.kind)),(.str (d.text)),(.int .i64 (d.n)),(.osl 4 (esD d))])]]) ?_)
  refine Wc.ret ?_
  refine retX.mk (.tup [(.str []),(.bool false)]) ⟨rfl,rfl⟩ (by kernel_rfl) ?_
  rw [if_pos (by assumption),(show k8 d=true by assumption)];rfl
 refine Wc.skip (Wc.seq (Wc.enter (Wl.bn0 0 1 [(0,(.agg [(.int .i64 (d.kind)),(.str (d.text)),(.int .i64 (d.n)),(.osl 4 (esD d))])),(1,(.ptr 0 0 0)),(2,(.str [])),(3,(.bool false)),(5,(.bool (k8 d))),(6,(.agg [(.int .i64 (d.kind)),(.str (d.text)),(.int .i64 (d.n)),(.osl 4 (esD d))]))] (hp [.row 0 26 4 0 (some 1) [(.agg [(.int .i64 (d.kind)),(.str (d.text)),(.int .i64 (d.n)),(.osl 4 (esD d))])]]) ?_)))
 refine Wl.c 1 [(7,(.str (x8 d)))] (@Go.AM.cFlatD (d) hd hr) ?_
 refine Wl.b0 2 4 [(2,(.str (x8 d))),(3,(.bool true))] ?_
 refine Wl.dn 4 (Wc.ret ?_)
 refine retX.mk (.tup [(.str (x8 d)),(.bool true)]) ⟨rfl,rfl⟩ (by kernel_rfl) ?_
 rw [if_neg (by simp [*]),(show k8 d=false by assumption)];rfl
end Go.AM
namespace Go.AM
open Go.Proofs
set_option maxRecDepth 100000
set_option maxHeartbeats 4000000
open Classical in
theorem xk9:∀ (m:Nat),m≤100000→∀ (d:Dc),szD d≤m→Cp Tryd.prog EU 10 [encD d] (.bool (decide (j7 d))):=by
 intro m
 induction m with
 | zero=>intro _ d h;have:=q07 d;omega
 | succ m IH =>
 intro hm d hd
 have hl:=qp2 d
 have hlen:=qc3 d
 have htx:=y3 d
 have hk:∀ k,k<d.kids.length→Cp Tryd.prog EU 10 [encD (d.kids.getD k dc0)] (.bool (decide (j7 (d.kids.getD k dc0)))):=fun k hk=>IH (by omega) _ (by have:=qg0 d hk;omega)
 clear IH
 by_cases ho:zz5 d
 ·have hz:decide (j7 d)=decide (∀ k,k<d.kids.length→j7 (d.kids.getD k dc0)):=by
   rw [decide_eq_decide,zg7];exact ⟨fun q=>q.2,fun q=>⟨ho,q⟩⟩
  rw [hz]
  clear hz
  have hb:Wc Tryd.prog EU (xw6 3 (Tryd.f10.body.getD .skip)) ((base 10 78).on [(1,(.ptr 0 0 0)),(3,(.int .i64 ((List.length (esD d):Nat):Int)))]) (hp [.row 0 26 4 0 (some 1) [(.agg [(.int .i64 (d.kind)),(.str (d.text)),(.int .i64 (d.n)),(.osl 4 (esD d))])]])
   (retX Tryd.prog Tryd.f10 fun v h=>q58 h v=some (.bool (decide (∀ k,k<d.kids.length→j7 (d.kids.getD k dc0))))) (z77 Tryd.prog Tryd.f10 fun v h=>q58 h v=some (.bool (decide (∀ k,k<d.kids.length→j7 (d.kids.getD k dc0))))) 0:=by
   refine Wc.seq (Wc.seq (Wc.wn0 [(1,(.ptr 0 0 0)),(3,(.int .i64 ((List.length (esD d):Int)))),(4,(.int .i64 0))] (hp [.row 0 26 4 0 (some 1) [(.agg [(.int .i64 (d.kind)),(.str (d.text)),(.int .i64 (d.n)),(.osl 4 (esD d))])]]) ?_))
   refine Wc.block ?_
   refine Wc.loop (α:=Nat) (fun i=>(base 10 78).on [(1,(.ptr 0 0 0)),(3,(.int .i64 ((List.length (esD d):Int)))),(4,(.int .i64 (i:Int)))]) (fun _=>(hp [.row 0 26 4 0 (some 1) [(.agg [(.int .i64 (d.kind)),(.str (d.text)),(.int .i64 (d.n)),(.osl 4 (esD d))])]])) (fun i=>i≤d.kids.length∧∀ k,k<i→j7 (d.kids.getD k dc0)) (fun i=>d.kids.length-i) 0 (Le.on [1,3,4] (by kernel_rfl)) rfl ⟨Nat.zero_le _,fun k hk=>absurd hk (Nat.not_lt_zero _)⟩ ?_
   rintro i ⟨hi,hn⟩
   refine Wc.seq (Wc.seq (Wc.wn0 [(1,(.ptr 0 0 0)),(3,(.int .i64 ((List.length (esD d):Int)))),(4,(.int .i64 (i:Int))),(68,(.bool (decide ((i:Int)<(List.length (esD d):Int)))))] (hp [.row 0 26 4 0 (some 1) [(.agg [(.int .i64 (d.kind)),(.str (d.text)),(.int .i64 (d.n)),(.osl 4 (esD d))])]]) ?_))
   refine Wc.cq (p:=(i:Int)<(List.length (esD d):Int)) (fun c1=>?_) (fun c1=>?_)
   ·refine Wc.skip (Wc.seq (Wc.block (Wc.seq (Wc.enter (Wl.bs 0 4 [(74,(.gptr 4 (esD d) (i*4)))] [((0≤(i:Int))∧((i:Int)<(List.length (esD d):Int)))] (.cons (by omega) .nil) ?_)))))
    refine Wl.l 4 [(75,(.agg [(.int .i64 ((List.getD d.kids i dc0).kind)),(.str ((List.getD d.kids i dc0).text)),(.int .i64 ((List.getD d.kids i dc0).n)),(.osl 4 (esD (List.getD d.kids i dc0)))]))] (@Go.AM.ldKid (hp [Obj.row 0 26 4 0 (some 1) [V.agg [V.int .i64 d.kind,V.str d.text,V.int .i64 d.n,V.osl 4 (esD d)]]]) (d) (i) (by omega)) ?_
    refine Wl.c 5 [(76,(.bool (decide (j7 (List.getD d.kids i dc0)))))] (@hk (i) (by omega)) ?_
    refine Wl.b0 6 7 [(77,(.bool (!decide (j7 (List.getD d.kids i dc0)))))] ?_
    refine Wl.dn 7 ?_
    refine Wc.condN (p:=j7 (List.getD d.kids i dc0)) (by kernel_rfl) (by kernel_rfl) (fun c2=>?_) (fun c2=>?_)
    ·refine Wc.seq (Wc.w0 [(2,(.bool false))] ?_)
     refine Wc.ret (z8.ret ?_)
     refine z8.ret ?_
     refine retX.mk (.bool false) ⟨rfl,rfl⟩ (by kernel_rfl) ?_
     rw [decide_eq_false (fun q=>absurd (q i (by omega)) (by assumption))];rfl
    refine Wc.skip (Wc.w [(4,(.int .i64 ((i:Int)+1)))] [(i64r ((i:Int)+1))] (.cons (by omega) .nil) ?_)
    refine ⟨i+1,Le.on [1,3,4] (by kernel_rfl),rfl,⟨by omega,fun k hk=>?_⟩,by omega⟩
    rcases Nat.lt_succ_iff_lt_or_eq.1 hk with q | rfl
    ·exact hn k q
    assumption
   refine Wc.exit (z8.here (Wc.seq (Wc.w0 [(2,(.bool true))] ?_)))
   refine Wc.ret ?_
   refine retX.mk (.bool true) ⟨rfl,rfl⟩ (by kernel_rfl) ?_
   rw [decide_eq_true (fun k hk=>hn k (by omega))];rfl
  obtain ⟨a1,a2,a3,a4,a5,a6,a7,a8⟩:=ho
  refine Cp.body (fn:=Tryd.f10) Tryd.func10 rfl (by kernel_rfl) ?_
  refine Wc.seq (Wc.wn0 [(0,(.agg [(.int .i64 (d.kind)),(.str (d.text)),(.int .i64 (d.n)),(.osl 4 (esD d))])),(1,(.ptr 0 0 0)),(2,(.bool false))] (hp [.row 0 26 4 0 (some 1) [(.agg [(.int .i64 (d.kind)),(.str (d.text)),(.int .i64 (d.n)),(.osl 4 (esD d))])]]) ?_)
  refine Wc.seq (Wc.seq (Wc.enter (Wl.b0 0 4 [(8,(.bool (decide (d.kind<0))))] ?_)))
  refine Wl.k 8 (.bool (decide (d.kind<0))) (.bool false) (by have e:=decide_eq_false (show ¬ (d.kind<0) from (by omega));simp only [e] <;> rfl) ?_
  refine Wl.b0 4 9 [(13,(.bool (decide (7<d.kind))))] ?_
  refine Wl.k 13 (.bool (decide (7<d.kind))) (.bool false) (by have e:=decide_eq_false (show ¬ (7<d.kind) from (by omega));simp only [e] <;> rfl) ?_
  refine Wl.b0 9 18 [(22,(.bool (!Bool.rec (!decide (d.kind=1)) (decide (d.kind=1)) !decide (d.text=[]))))] ?_
  refine Wl.split (p:=(Bool.rec (!decide (d.kind=1)) (decide (d.kind=1)) !decide (d.text=[]))=true) (fun c3=>?_) (fun c3=>?_)
  ·refine Wl.k 22 (.bool (!Bool.rec (!decide (d.kind=1)) (decide (d.kind=1)) !decide (d.text=[]))) (.bool false) (by have e:=c3;simp only [e] <;> rfl) ?_
   refine Wl.b0 18 22 [(26,(.bool (!decide (d.n=0))))] ?_
   refine Wl.split (p:=d.n=0) (fun c4=>?_) (fun c4=>?_)
   ·refine Wl.k 26 (.bool (!decide (d.n=0))) (.bool false) (by have e:=decide_eq_true c4;simp only [e] <;> rfl) ?_
    refine Wl.b0 22 33 [(37,(.bool (decide (d.n < -1000))))] ?_
    refine Wl.k 37 (.bool (decide (d.n < -1000))) (.bool false) (by have e:=decide_eq_false (show ¬ (d.n < -1000) from (by omega));simp only [e] <;> rfl) ?_
    refine Wl.b0 33 37 [(41,(.bool (decide (1000<d.n))))] ?_
    refine Wl.dn 37 ?_
    refine Wc.cq (p:=1000<d.n) (fun c6=>absurd c6 (show ¬ (1000<d.n) from (by omega))) (fun c6=>?_)
    refine Wc.skip (Wc.seq (Wc.w0 [(3,(.int .i64 ((List.length (esD d):Int))))] ?_))
    refine Wc.seq (Wc.seq (Wc.enter (Wl.b0 0 4 [(48,(.bool (decide (d.kind=5))))] ?_)))
    refine Wl.split (p:=d.kind=5) (fun c7=>?_) (fun c7=>?_)
    ·refine Wl.k 48 (.bool (decide (d.kind=5))) (.bool true) (by have e:=decide_eq_true c7;simp only [e] <;> rfl) ?_
     refine Wl.b0 4 13 [(57,(.bool (!decide ((List.length (esD d):Int)=1))))] ?_
     refine Wl.k 57 (.bool (!decide ((List.length (esD d):Int)=1))) (.bool false) (by have e:=decide_eq_true (show (List.length (esD d):Int)=1 from (by omega));simp only [e] <;> rfl) ?_
     refine Wl.b0 13 17 [(61,(.bool (decide (d.kind<5))))] ?_
     refine Wl.k 61 (.bool (decide (d.kind<5))) (.bool false) (by have e:=decide_eq_false (show ¬ (d.kind<5) from (by omega));simp only [e] <;> rfl) ?_
     refine Wl.b0 17 21 [(65,(.bool false))] ?_
     refine Wl.dn 21 (Wc.cf (Wc.skip ?_))
     exact Wc.use hb (by kernel_rfl) (by kernel_rfl) (Le.on [1,3] (by kernel_rfl))
    refine Wl.k 48 (.bool (decide (d.kind=5))) (.bool false) (by have e:=decide_eq_false c7;simp only [e] <;> rfl) ?_
    refine Wl.b0 4 9 [(53,(.bool (decide (d.kind=6))))] ?_
    refine Wl.split (p:=d.kind=6) (fun c10=>?_) (fun c10=>?_)
    ·refine Wl.k 53 (.bool (decide (d.kind=6))) (.bool true) (by have e:=decide_eq_true c10;simp only [e] <;> rfl) ?_
     refine Wl.b0 9 13 [(57,(.bool (!decide ((List.length (esD d):Int)=1))))] ?_
     refine Wl.k 57 (.bool (!decide ((List.length (esD d):Int)=1))) (.bool false) (by have e:=decide_eq_true (show (List.length (esD d):Int)=1 from (by omega));simp only [e] <;> rfl) ?_
     refine Wl.b0 13 17 [(61,(.bool (decide (d.kind<5))))] ?_
     refine Wl.k 61 (.bool (decide (d.kind<5))) (.bool false) (by have e:=decide_eq_false (show ¬ (d.kind<5) from (by omega));simp only [e] <;> rfl) ?_
     refine Wl.b0 17 21 [(65,(.bool false))] ?_
     refine Wl.dn 21 (Wc.cf (Wc.skip ?_))
     exact Wc.use hb (by kernel_rfl) (by kernel_rfl) (Le.on [1,3] (by kernel_rfl))
    refine Wl.k 53 (.bool (decide (d.kind=6))) (.bool false) (by have e:=decide_eq_false c10;simp only [e] <;> rfl) ?_
    refine Wl.b0 9 17 [(57,(.bool false)),(61,(.bool (decide (d.kind<5))))] ?_
    refine Wl.split (p:=d.kind<5) (fun c13=>?_) (fun c13=>?_)
    ·refine Wl.k 61 (.bool (decide (d.kind<5))) (.bool true) (by have e:=decide_eq_true c13;simp only [e] <;> rfl) ?_
     refine Wl.b0 17 21 [(65,(.bool (!decide ((List.length (esD d):Int)=0))))] ?_
     refine Wl.dn 21 ?_
     refine Wc.condN (p:=(List.length (esD d):Int)=0) (by kernel_rfl) (by kernel_rfl) (fun c14=>?_) (fun c14=>?_)
     ·refine Wc.seq (Wc.w0 [] ?_)
      refine Wc.ret ?_
      refine retX.mk (.bool false) ⟨rfl,rfl⟩ (by kernel_rfl) ?_
      exfalso
      have:=a8 (by omega)
      rw [this] at hl
      simp only [List.length_nil] at hl
      omega
     refine Wc.skip ?_
     exact Wc.use hb (by kernel_rfl) (by kernel_rfl) (Le.on [1,3] (by kernel_rfl))
    refine Wl.k 61 (.bool (decide (d.kind<5))) (.bool false) (by have e:=decide_eq_false c13;simp only [e] <;> rfl) ?_
    refine Wl.b0 17 21 [(65,(.bool false))] ?_
    refine Wl.dn 21 (Wc.cf (Wc.skip ?_))
    exact Wc.use hb (by kernel_rfl) (by kernel_rfl) (Le.on [1,3] (by kernel_rfl))
   refine Wl.k 26 (.bool (!decide (d.n=0))) (.bool true) (by have e:=decide_eq_false c4;simp only [e] <;> rfl) ?_
   refine Wl.b0 22 28 [(32,(.bool (!decide (d.kind=5))))] ?_
   refine Wl.k 32 (.bool (!decide (d.kind=5))) (.bool false) (by have e:=decide_eq_true (show d.kind=5 from (by omega));simp only [e] <;> rfl) ?_
   refine Wl.b0 28 33 [(37,(.bool (decide (d.n < -1000))))] ?_
   refine Wl.k 37 (.bool (decide (d.n < -1000))) (.bool false) (by have e:=decide_eq_false (show ¬ (d.n < -1000) from (by omega));simp only [e] <;> rfl) ?_
   refine Wl.b0 33 37 [(41,(.bool (decide (1000<d.n))))] ?_
   refine Wl.dn 37 ?_
   refine Wc.cq (p:=1000<d.n) (fun c17=>absurd c17 (show ¬ (1000<d.n) from (by omega))) (fun c17=>?_)
   refine Wc.skip (Wc.seq (Wc.w0 [(3,(.int .i64 ((List.length (esD d):Int))))] ?_))
   refine Wc.seq (Wc.seq (Wc.enter (Wl.b0 0 4 [(48,(.bool (decide (d.kind=5))))] ?_)))
   refine Wl.k 48 (.bool (decide (d.kind=5))) (.bool true) (by have e:=decide_eq_true (show d.kind=5 from (by omega));simp only [e] <;> rfl) ?_
   refine Wl.b0 4 13 [(57,(.bool (!decide ((List.length (esD d):Int)=1))))] ?_
   refine Wl.k 57 (.bool (!decide ((List.length (esD d):Int)=1))) (.bool false) (by have e:=decide_eq_true (show (List.length (esD d):Int)=1 from (by omega));simp only [e] <;> rfl) ?_
   refine Wl.b0 13 17 [(61,(.bool (decide (d.kind<5))))] ?_
   refine Wl.k 61 (.bool (decide (d.kind<5))) (.bool false) (by have e:=decide_eq_false (show ¬ (d.kind<5) from (by omega));simp only [e] <;> rfl) ?_
   refine Wl.b0 17 21 [(65,(.bool false))] ?_
   refine Wl.dn 21 (Wc.cf (Wc.skip ?_))
   exact Wc.use hb (by kernel_rfl) (by kernel_rfl) (Le.on [1,3] (by kernel_rfl))
  refine Wl.k 22 (.bool (!Bool.rec (!decide (d.kind=1)) (decide (d.kind=1)) !decide (d.text=[]))) (.bool true) (by have e:=Bool.eq_false_iff.2 c3;simp only [e] <;> rfl) ?_
  refine Wl.b0 18 37 [(41,(.bool true))] ?_
  refine Wl.dn 37 (Wc.ct (Wc.seq (Wc.w0 [] ?_)))
  refine Wc.ret ?_
  refine retX.mk (.bool false) ⟨rfl,rfl⟩ (by kernel_rfl) ?_
  exact absurd (neqB.2 a3) c3
 have hz:decide (j7 d)=false:=by
  rw [decide_eq_false_iff_not,zg7];exact fun q=>ho q.1
 rw [hz]
 clear hz
 refine Cp.body (fn:=Tryd.f10) Tryd.func10 rfl (by kernel_rfl) ?_
 refine Wc.seq (Wc.wn0 [(0,(.agg [(.int .i64 (d.kind)),(.str (d.text)),(.int .i64 (d.n)),(.osl 4 (esD d))])),(1,(.ptr 0 0 0)),(2,(.bool false))] (hp [.row 0 26 4 0 (some 1) [(.agg [(.int .i64 (d.kind)),(.str (d.text)),(.int .i64 (d.n)),(.osl 4 (esD d))])]]) ?_)
 refine Wc.seq (Wc.seq (Wc.enter (Wl.b0 0 4 [(8,(.bool (decide (d.kind<0))))] ?_)))
 refine Wl.split (p:=d.kind<0) (fun c1=>?_) (fun c1=>?_)
 ·refine Wl.k 8 (.bool (decide (d.kind<0))) (.bool true) (by have e:=decide_eq_true c1;simp only [e] <;> rfl) ?_
  refine Wl.b0 4 37 [(41,(.bool true))] ?_
  refine Wl.dn 37 (Wc.ct (Wc.seq (Wc.w0 [] ?_)))
  refine Wc.ret ?_
  refine retX.mk (.bool false) ⟨rfl,rfl⟩ (by kernel_rfl) ?_
  kernel_rfl
 refine Wl.k 8 (.bool (decide (d.kind<0))) (.bool false) (by have e:=decide_eq_false c1;simp only [e] <;> rfl) ?_
 refine Wl.b0 4 9 [(13,(.bool (decide (7<d.kind))))] ?_
 refine Wl.split (p:=7<d.kind) (fun c2=>?_) (fun c2=>?_)
 ·refine Wl.k 13 (.bool (decide (7<d.kind))) (.bool true) (by have e:=decide_eq_true c2;simp only [e] <;> rfl) ?_
  refine Wl.b0 9 37 [(41,(.bool true))] ?_
  refine Wl.dn 37 (Wc.ct (Wc.seq (Wc.w0 [] ?_)))
  refine Wc.ret ?_
  refine retX.mk (.bool false) ⟨rfl,rfl⟩ (by kernel_rfl) ?_
  kernel_rfl
 refine Wl.k 13 (.bool (decide (7<d.kind))) (.bool false) (by have e:=decide_eq_false c2;simp only [e] <;> rfl) ?_
 refine Wl.b0 9 18 [(22,(.bool (!Bool.rec (!decide (d.kind=1)) (decide (d.kind=1)) !decide (d.text=[]))))] ?_
 refine Wl.split (p:=(Bool.rec (!decide (d.kind=1)) (decide (d.kind=1)) !decide (d.text=[]))=true) (fun c3=>?_) (fun c3=>?_)
 ·refine Wl.k 22 (.bool (!Bool.rec (!decide (d.kind=1)) (decide (d.kind=1)) !decide (d.text=[]))) (.bool false) (by have e:=c3;simp only [e] <;> rfl) ?_
  refine Wl.b0 18 22 [(26,(.bool (!decide (d.n=0))))] ?_
  refine Wl.split (p:=d.n=0) (fun c4=>?_) (fun c4=>?_)
  ·refine Wl.k 26 (.bool (!decide (d.n=0))) (.bool false) (by have e:=decide_eq_true c4;simp only [e] <;> rfl) ?_
   refine Wl.b0 22 33 [(37,(.bool (decide (d.n < -1000))))] ?_
   refine Wl.k 37 (.bool (decide (d.n < -1000))) (.bool false) (by have e:=decide_eq_false (show ¬ (d.n < -1000) from (by omega));simp only [e] <;> rfl) ?_
   refine Wl.b0 33 37 [(41,(.bool (decide (1000<d.n))))] ?_
   refine Wl.dn 37 ?_
   refine Wc.cq (p:=1000<d.n) (fun c6=>absurd c6 (show ¬ (1000<d.n) from (by omega))) (fun c6=>?_)
   refine Wc.skip (Wc.seq (Wc.w0 [(3,(.int .i64 ((List.length (esD d):Int))))] ?_))
   refine Wc.seq (Wc.seq (Wc.enter (Wl.b0 0 4 [(48,(.bool (decide (d.kind=5))))] ?_)))
   refine Wl.split (p:=d.kind=5) (fun c7=>?_) (fun c7=>?_)
   ·refine Wl.k 48 (.bool (decide (d.kind=5))) (.bool true) (by have e:=decide_eq_true c7;simp only [e] <;> rfl) ?_
    refine Wl.b0 4 13 [(57,(.bool (!decide ((List.length (esD d):Int)=1))))] ?_
    refine Wl.split (p:=(List.length (esD d):Int)=1) (fun c8=>?_) (fun c8=>?_)
    ·refine Wl.k 57 (.bool (!decide ((List.length (esD d):Int)=1))) (.bool false) (by have e:=decide_eq_true c8;simp only [e] <;> rfl) ?_
     refine Wl.b0 13 17 [(61,(.bool (decide (d.kind<5))))] ?_
     refine Wl.k 61 (.bool (decide (d.kind<5))) (.bool false) (by have e:=decide_eq_false (show ¬ (d.kind<5) from (by omega));simp only [e] <;> rfl) ?_
     refine Wl.b0 17 21 [(65,(.bool false))] ?_
     refine Wl.dn 21 (Wc.cf (Wc.skip (Wc.seq (Wc.seq (Wc.w0 [(4,(.int .i64 0))] ?_)))))
     refine Wc.block ?_
     exact absurd ⟨by omega,by omega,neqB.1 c3,fun _=>by omega,by omega,by omega,fun _=>by omega,fun _=>List.eq_nil_of_length_eq_zero (by omega)⟩ ho
    refine Wl.k 57 (.bool (!decide ((List.length (esD d):Int)=1))) (.bool true) (by have e:=decide_eq_false c8;simp only [e] <;> rfl) ?_
    refine Wl.b0 13 21 [(65,(.bool true))] ?_
    refine Wl.dn 21 (Wc.ct (Wc.seq (Wc.w0 [] ?_)))
    refine Wc.ret ?_
    refine retX.mk (.bool false) ⟨rfl,rfl⟩ (by kernel_rfl) ?_
    kernel_rfl
   refine Wl.k 48 (.bool (decide (d.kind=5))) (.bool false) (by have e:=decide_eq_false c7;simp only [e] <;> rfl) ?_
   refine Wl.b0 4 9 [(53,(.bool (decide (d.kind=6))))] ?_
   refine Wl.split (p:=d.kind=6) (fun c10=>?_) (fun c10=>?_)
   ·refine Wl.k 53 (.bool (decide (d.kind=6))) (.bool true) (by have e:=decide_eq_true c10;simp only [e] <;> rfl) ?_
    refine Wl.b0 9 13 [(57,(.bool (!decide ((List.length (esD d):Int)=1))))] ?_
    refine Wl.split (p:=(List.length (esD d):Int)=1) (fun c11=>?_) (fun c11=>?_)
    ·refine Wl.k 57 (.bool (!decide ((List.length (esD d):Int)=1))) (.bool false) (by have e:=decide_eq_true c11;simp only [e] <;> rfl) ?_
     refine Wl.b0 13 17 [(61,(.bool (decide (d.kind<5))))] ?_
     refine Wl.k 61 (.bool (decide (d.kind<5))) (.bool false) (by have e:=decide_eq_false (show ¬ (d.kind<5) from (by omega));simp only [e] <;> rfl) ?_
     refine Wl.b0 17 21 [(65,(.bool false))] ?_
     refine Wl.dn 21 (Wc.cf (Wc.skip (Wc.seq (Wc.seq (Wc.w0 [(4,(.int .i64 0))] ?_)))))
     refine Wc.block ?_
     exact absurd ⟨by omega,by omega,neqB.1 c3,fun _=>by omega,by omega,by omega,fun _=>by omega,fun _=>List.eq_nil_of_length_eq_zero (by omega)⟩ ho
    refine Wl.k 57 (.bool (!decide ((List.length (esD d):Int)=1))) (.bool true) (by have e:=decide_eq_false c11;simp only [e] <;> rfl) ?_
    refine Wl.b0 13 21 [(65,(.bool true))] ?_
    refine Wl.dn 21 (Wc.ct (Wc.seq (Wc.w0 [] ?_)))
    refine Wc.ret ?_
    refine retX.mk (.bool false) ⟨rfl,rfl⟩ (by kernel_rfl) ?_
    kernel_rfl
   refine Wl.k 53 (.bool (decide (d.kind=6))) (.bool false) (by have e:=decide_eq_false c10;simp only [e] <;> rfl) ?_
   refine Wl.b0 9 17 [(57,(.bool false)),(61,(.bool (decide (d.kind<5))))] ?_
   refine Wl.split (p:=d.kind<5) (fun c13=>?_) (fun c13=>?_)
   ·refine Wl.k 61 (.bool (decide (d.kind<5))) (.bool true) (by have e:=decide_eq_true c13;simp only [e] <;> rfl) ?_
    refine Wl.b0 17 21 [(65,(.bool (!decide ((List.length (esD d):Int)=0))))] ?_
    refine Wl.dn 21 ?_
    refine Wc.condN (p:=(List.length (esD d):Int)=0) (by kernel_rfl) (by kernel_rfl) (fun c14=>?_) (fun c14=>?_)
    ·refine Wc.seq (Wc.w0 [] ?_)
     refine Wc.ret ?_
     refine retX.mk (.bool false) ⟨rfl,rfl⟩ (by kernel_rfl) ?_
     kernel_rfl
    refine Wc.skip (Wc.seq (Wc.seq (Wc.w0 [(4,(.int .i64 0))] ?_)))
    refine Wc.block ?_
    exact absurd ⟨by omega,by omega,neqB.1 c3,fun _=>by omega,by omega,by omega,fun _=>by omega,fun _=>List.eq_nil_of_length_eq_zero (by omega)⟩ ho
   refine Wl.k 61 (.bool (decide (d.kind<5))) (.bool false) (by have e:=decide_eq_false c13;simp only [e] <;> rfl) ?_
   refine Wl.b0 17 21 [(65,(.bool false))] ?_
   refine Wl.dn 21 (Wc.cf (Wc.skip (Wc.seq (Wc.seq (Wc.w0 [(4,(.int .i64 0))] ?_)))))
   refine Wc.block ?_
   exact absurd ⟨by omega,by omega,neqB.1 c3,fun _=>by omega,by omega,by omega,fun _=>by omega,fun _=>List.eq_nil_of_length_eq_zero (by omega)⟩ ho
  refine Wl.k 26 (.bool (!decide (d.n=0))) (.bool true) (by have e:=decide_eq_false c4;simp only [e] <;> rfl) ?_
  refine Wl.b0 22 28 [(32,(.bool (!decide (d.kind=5))))] ?_
  refine Wl.split (p:=d.kind=5) (fun c15=>?_) (fun c15=>?_)
  ·refine Wl.k 32 (.bool (!decide (d.kind=5))) (.bool false) (by have e:=decide_eq_true c15;simp only [e] <;> rfl) ?_
   refine Wl.b0 28 33 [(37,(.bool (decide (d.n < -1000))))] ?_
   refine Wl.split (p:=d.n < -1000) (fun c5=>?_) (fun c5=>?_)
   ·refine Wl.k 37 (.bool (decide (d.n < -1000))) (.bool true) (by have e:=decide_eq_true c5;simp only [e] <;> rfl) ?_
    refine Wl.b0 33 37 [(41,(.bool true))] ?_
    refine Wl.dn 37 (Wc.ct (Wc.seq (Wc.w0 [] ?_)))
    refine Wc.ret ?_
    refine retX.mk (.bool false) ⟨rfl,rfl⟩ (by kernel_rfl) ?_
    kernel_rfl
   refine Wl.k 37 (.bool (decide (d.n < -1000))) (.bool false) (by have e:=decide_eq_false c5;simp only [e] <;> rfl) ?_
   refine Wl.b0 33 37 [(41,(.bool (decide (1000<d.n))))] ?_
   refine Wl.dn 37 ?_
   refine Wc.cq (p:=1000<d.n) (fun c6=>?_) (fun c6=>?_)
   ·refine Wc.seq (Wc.w0 [] ?_)
    refine Wc.ret ?_
    refine retX.mk (.bool false) ⟨rfl,rfl⟩ (by kernel_rfl) ?_
    kernel_rfl
   refine Wc.skip (Wc.seq (Wc.w0 [(3,(.int .i64 ((List.length (esD d):Int))))] ?_))
   refine Wc.seq (Wc.seq (Wc.enter (Wl.b0 0 4 [(48,(.bool (decide (d.kind=5))))] ?_)))
   refine Wl.k 48 (.bool (decide (d.kind=5))) (.bool true) (by have e:=decide_eq_true (show d.kind=5 from c15);simp only [e] <;> rfl) ?_
   refine Wl.b0 4 13 [(57,(.bool (!decide ((List.length (esD d):Int)=1))))] ?_
   refine Wl.split (p:=(List.length (esD d):Int)=1) (fun c8=>?_) (fun c8=>?_)
   ·refine Wl.k 57 (.bool (!decide ((List.length (esD d):Int)=1))) (.bool false) (by have e:=decide_eq_true c8;simp only [e] <;> rfl) ?_
    refine Wl.b0 13 17 [(61,(.bool (decide (d.kind<5))))] ?_
    refine Wl.k 61 (.bool (decide (d.kind<5))) (.bool false) (by have e:=decide_eq_false (show ¬ (d.kind<5) from (by omega));simp only [e] <;> rfl) ?_
    refine Wl.b0 17 21 [(65,(.bool false))] ?_
    refine Wl.dn 21 (Wc.cf (Wc.skip (Wc.seq (Wc.seq (Wc.w0 [(4,(.int .i64 0))] ?_)))))
    refine Wc.block ?_
    exact absurd ⟨by omega,by omega,neqB.1 c3,fun _=>by omega,by omega,by omega,fun _=>by omega,fun _=>List.eq_nil_of_length_eq_zero (by omega)⟩ ho
   refine Wl.k 57 (.bool (!decide ((List.length (esD d):Int)=1))) (.bool true) (by have e:=decide_eq_false c8;simp only [e] <;> rfl) ?_
   refine Wl.b0 13 21 [(65,(.bool true))] ?_
   refine Wl.dn 21 (Wc.ct (Wc.seq (Wc.w0 [] ?_)))
   refine Wc.ret ?_
   refine retX.mk (.bool false) ⟨rfl,rfl⟩ (by kernel_rfl) ?_
   kernel_rfl
  refine Wl.k 32 (.bool (!decide (d.kind=5))) (.bool true) (by have e:=decide_eq_false c15;simp only [e] <;> rfl) ?_
  refine Wl.b0 28 37 [(41,(.bool true))] ?_
  refine Wl.dn 37 (Wc.ct (Wc.seq (Wc.w0 [] ?_)))
  refine Wc.ret ?_
  refine retX.mk (.bool false) ⟨rfl,rfl⟩ (by kernel_rfl) ?_
  kernel_rfl
 refine Wl.k 22 (.bool (!Bool.rec (!decide (d.kind=1)) (decide (d.kind=1)) !decide (d.text=[]))) (.bool true) (by have e:=Bool.eq_false_iff.2 c3;simp only [e] <;> rfl) ?_
 refine Wl.b0 18 37 [(41,(.bool true))] ?_
 refine Wl.dn 37 (Wc.ct (Wc.seq (Wc.w0 [] ?_)))
 refine Wc.ret ?_
 refine retX.mk (.bool false) ⟨rfl,rfl⟩ (by kernel_rfl) ?_
 kernel_rfl
end Go.AM
namespace Go.AM
open Go.Proofs
set_option maxRecDepth 100000
set_option maxHeartbeats 4000000
theorem cSay {s:List UInt8} (hs:s≠[]):Cp Tryd.prog EU 21 [.str s] (encD ⟨1,s,0,[]⟩):=by
 have key:Cp Tryd.prog EU 21 [.str s] (.agg [.int .i64 1,.str s,.int .i64 0,.nils]):=by
  refine Cp.body (fn:=Tryd.f21) Tryd.func21 rfl (by kernel_rfl) ?_
  refine Wc.seq (Wc.wn0 [(0,(.str s)),(2,(.ptr 0 0 0))] (hp [.row 0 26 4 0 (some 1) [(.agg [(.int .i64 0),(.str []),(.int .i64 0),.nils])]]) ?_)
  refine Wc.seq (Wc.seq (Wc.w0 [(4,(.bool (decide (s=[]))))] ?_))
  refine Wc.cq (p:=s=[]) (fun c1=>absurd c1 (show ¬ (s=[]) from (by omega))) (fun c1=>?_)
  refine Wc.skip (Wc.seq (Wc.wn0 [] (hp [.row 0 26 4 0 (some 1) [(.agg [(.int .i64 1),(.str s),(.int .i64 0),.nils])]]) ?_))
  refine Wc.ret ?_
  refine retX.mk (.agg [(.int .i64 1),(.str s),(.int .i64 0),.nils]) ⟨rfl,rfl⟩ (by kernel_rfl) ?_
  kernel_rfl
 exact key.data zl8
theorem cIn {d:Dc} {n:Int}:Cp Tryd.prog EU 22 [.int .i64 n,encD d] (encD ⟨5,[],n,[d]⟩):=by
 have key:Cp Tryd.prog EU 22 [.int .i64 n,encD d] (.agg [.int .i64 5,.str [],.int .i64 n,.gsl 4 [encD d] (some 1)]):=by
  refine Cp.body (fn:=Tryd.f22) Tryd.func22 rfl (by kernel_rfl) ?_
  refine Wc.seq ?_
  let v1:V:=(.agg [(.int .i64 (d.kind)),(.str (d.text)),(.int .i64 (d.n)),(.osl 4 (esD d))])
  let v2:Obj:=.row 0 26 4 0 (some 1) [v1]
  refine Wc.wn0 [(0,(.int .i64 (n))),(1,v1),(3,(.ptr 0 0 0)),(4,(.ptr 1 0 0))] (hp [v2,.row 0 26 4 0 (some 1) [(.agg [(.int .i64 0),(.str []),(.int .i64 0),.nils])]]) ?_
  refine Wc.seq (Wc.wn0 [] (hp [v2,.row 0 26 4 0 (some 1) [(.agg [(.int .i64 5),(.str []),(.int .i64 (n)),(.gsl 4 [v1] (some 1))])]]) ?_)
  refine Wc.ret ?_
  refine retX.mk (.agg [(.int .i64 5),(.str []),(.int .i64 (n)),(.gsl 4 [(.agg [(.int .i64 (d.kind)),(.str (d.text)),(.int .i64 (d.n)),(.osl 4 (esD d))])] (some 1))]) ⟨rfl,rfl⟩ (by kernel_rfl) ?_
  rfl
 exact key.data (zg9 rfl)
theorem cFit {d:Dc}:Cp Tryd.prog EU 23 [encD d] (encD ⟨6,[],0,[d]⟩):=by
 have key:Cp Tryd.prog EU 23 [encD d] (.agg [.int .i64 6,.str [],.int .i64 0,.gsl 4 [encD d] (some 1)]):=by
  refine Cp.body (fn:=Tryd.f23) Tryd.func23 rfl (by kernel_rfl) ?_
  refine Wc.seq ?_
  let v1:V:=(.agg [(.int .i64 (d.kind)),(.str (d.text)),(.int .i64 (d.n)),(.osl 4 (esD d))])
  let v2:Obj:=.row 0 26 4 0 (some 1) [v1]
  refine Wc.wn0 [(0,v1),(1,(.ptr 0 0 0)),(2,(.ptr 1 0 0))] (hp [v2,.row 0 26 4 0 (some 1) [(.agg [(.int .i64 0),(.str []),(.int .i64 0),.nils])]]) ?_
  refine Wc.seq (Wc.wn0 [] (hp [v2,.row 0 26 4 0 (some 1) [(.agg [(.int .i64 6),(.str []),(.int .i64 0),(.gsl 4 [v1] (some 1))])]]) ?_)
  refine Wc.ret ?_
  refine retX.mk (.agg [(.int .i64 6),(.str []),(.int .i64 0),(.gsl 4 [(.agg [(.int .i64 (d.kind)),(.str (d.text)),(.int .i64 (d.n)),(.osl 4 (esD d))])] (some 1))]) ⟨rfl,rfl⟩ (by kernel_rfl) ?_
  rfl
 exact key.data (zg9 rfl)
theorem cInN {n:Int}:Cp Tryd.prog EU 22 [.int .i64 n,.agg [.int .i64 7,.str [],.int .i64 0,.nils]] (encD ⟨5,[],n,[⟨7,[],0,[]⟩]⟩):=.args (.cons (.refl _) (.cons x55 .nil)) cIn
theorem cFitN:Cp Tryd.prog EU 23 [.agg [.int .i64 7,.str [],.int .i64 0,.nils]] (encD ⟨6,[],0,[⟨7,[],0,[]⟩]⟩):=.args (.cons x55 .nil) cFit
end Go.AM
namespace Go.AM
open Go.Proofs
set_option maxRecDepth 100000
set_option maxHeartbeats 4000000
theorem xl0:q30 Tryd.prog 26=some true:=by kernel_rfl
theorem xn8:size Tryd.prog 26=4:=by kernel_rfl
theorem agg3:q30 Tryd.prog 3=some false:=by kernel_rfl
theorem siz3:size Tryd.prog 3=1:=by kernel_rfl
theorem ldLk {h:Heap} (l:List Dc) (k:Nat) (hk:k<l.length):load Tryd.prog h 3 (.gptr 4 (l.map encD) (Nat.add (k*4) 0))=some (.int .i64 (l.getD k dc0).kind):=j28 agg3 siz3 (by omega) rfl (z60 encD l dc0 hk) rfl rfl rfl
theorem ldR {h:Heap} {r ver k pub:Nat} {cap:Option Nat} (l:List Dc) (hr:h.get r=.row ver 26 4 pub cap (l.map encD)) (hk:k<l.length):load Tryd.prog h 26 (.ptr r ver (k*4))=some (encD (l.getD k dc0)):=x65 xl0 xn8 (by omega) hr (z60 encD l dc0 hk) rfl
theorem ldL {h:Heap} (l:List Dc) (k:Nat) (hk:k<l.length):load Tryd.prog h 26 (.gptr 4 (l.map encD) (k*4))=some (encD (l.getD k dc0)) :=
 zd8 xl0 xn8 (by omega) (z60 encD l dc0 hk) rfl
theorem ldR0 {h:Heap} {r ver pub:Nat} {cap:Option Nat} (l:List Dc) (hr:h.get r=.row ver 26 4 pub cap (l.map encD)) (hk:0<l.length):load Tryd.prog h 26 (.ptr r ver 0)=some (encD (l.getD 0 dc0)):=ldR (k:=0) l hr hk
theorem qs5 (p:Dc→Bool) {l:List Dc} {i:Nat} (hi:i<l.length):(l.take (i+1)).filter p=(l.take i).filter p++[l.getD i dc0].filter p:=by
 rw [List.take_add_one,List.filter_append,List.getD_eq_getElem?_getD,List.getElem?_eq_getElem hi]
 rfl
theorem zv4 {p:Dc→Bool} {x:Dc} (h:p x=true):[x].filter p=[x]:=by rw [List.filter_cons,if_pos h];rfl
theorem x54 {p:Dc→Bool} {x:Dc} (h:p x=false):[x].filter p=[]:=by rw [List.filter_cons,if_neg (by rw [h];decide)];rfl
theorem zy9 {l:List Dc} (h:[]=l.filter fun d=>!decide (d.kind=0)):rowD l=dc0:=by unfold rowD;rw [← h]
theorem xt7 {l gs:List Dc} (h:gs=l.filter fun d=>!decide (d.kind=0)) (hn:gs.length=1):rowD l=gs.getD 0 dc0:=by
 unfold rowD
 rw [← h]
 match gs,hn with
 | [x],_=>rfl
theorem xk7 {l gs:List Dc} (h:gs=l.filter fun d=>!decide (d.kind=0)) (h0:0<gs.length) (hn:¬ gs.length=1):rowD l=⟨7,[],0,gs⟩:=by
 unfold rowD
 rw [← h]
 match gs,h0,hn with
 | x::y::l,_,_=>rfl
noncomputable def rowS (l fs:List Dc) (i:Nat):Fr:=(base 24 36).on [(0,.osl 4 (l.map encD)),(2,.ptr 0 0 0),(3,match fs with | []=>.nils | _::_=>.sl 1 0 0 fs.length none),(4,.int .i64 (i:Int))]
noncomputable def rowH (fs:List Dc):Heap:=match fs with | []=>hp [.row 0 26 4 0 (some 1) [.agg [.int .i64 0,.str [],.int .i64 0,.nils]]] | _::_=>hp [.row 0 26 4 0 (some 1) [.agg [.int .i64 0,.str [],.int .i64 0,.nils]],.row 0 26 4 0 none (fs.map encD)]
theorem zj6 {l gs:List Dc} {i:Nat} (h:0<gs.length):rowS l gs i=(base 24 36).on [(0,.osl 4 (l.map encD)),(2,.ptr 0 0 0),(3,.sl 1 0 0 gs.length none),(4,.int .i64 (i:Int))]:=by
 cases gs with
 | nil=>simp at h
 | cons f fs=>rfl
theorem zk5 {gs:List Dc} (h:0<gs.length):rowH gs=hp [.row 0 26 4 0 (some 1) [.agg [.int .i64 0,.str [],.int .i64 0,.nils]],.row 0 26 4 0 none (gs.map encD)]:=by
 cases gs with
 | nil=>simp at h
 | cons f fs=>rfl
theorem cRow {l:List Dc} (hl:l.length≤100000):Cp Tryd.prog EU 24 [.osl 4 (l.map encD)] (encD (rowD l)):=by
 refine Cp.bodyG (fn:=Tryd.f24) Tryd.func24 rfl (by kernel_rfl) ?_
 refine Wc.seq (Wc.wn0 [(0,(.osl 4 (List.map encD l))),(2,(.ptr 0 0 0))] (hp [.row 0 26 4 0 (some 1) [(.agg [(.int .i64 0),(.str []),(.int .i64 0),.nils])]]) ?_)
 refine Wc.seq (Wc.w0 [(3,.nils)] ?_)
 refine Wc.seq (Wc.seq (Wc.w0 [(4,(.int .i64 0))] ?_))
 refine Wc.block ?_
 refine Wc.loopV (α:=Nat×List Dc) (fun a=>rowS l a.2 a.1) (fun a=>rowH a.2) (fun a=>a.1≤l.length∧a.2=(l.take a.1).filter fun d=>!decide (d.kind=0)) (fun a=>l.length-a.1) (0,[]) (Vw.le (Le.on [0,2,3,4] (by kernel_rfl))) ⟨Nat.zero_le _,rfl⟩ ?_
 rintro ⟨i,gs⟩ ⟨hi,hf⟩
 simp only at hi hf
 have hln:(l.map encD).length=l.length:=List.length_map _
 have hgl:gs.length≤i:=by rw [hf];exact Nat.le_trans (List.length_filter_le _ _) (by rw [List.length_take];omega)
 rcases Nat.eq_zero_or_pos gs.length with hg | hg
 ·have:=List.length_eq_zero_iff.1 hg
  subst this
  change Wc Tryd.prog EU _ ((base 24 36).on [(0,.osl 4 (l.map encD)),(2,.ptr 0 0 0),(3,.nils),(4,.int .i64 (i:Int))]) (hp [.row 0 26 4 0 (some 1) [.agg [.int .i64 0,.str [],.int .i64 0,.nils]]]) _ _ _
  refine Wc.seq (Wc.seq (Wc.wn0 [(0,(.osl 4 (List.map encD l))),(2,(.ptr 0 0 0)),(3,.nils),(4,(.int .i64 (i:Int))),(8,(.bool (decide ((i:Int)<(List.length (List.map encD l):Int)))))] (hp [.row 0 26 4 0 (some 1) [(.agg [(.int .i64 0),(.str []),(.int .i64 0),.nils])]]) ?_))
  refine Wc.cq (p:=(i:Int)<(List.length (List.map encD l):Int)) (fun c1=>?_) (fun c1=>?_)
  ·refine Wc.skip (Wc.seq (Wc.block (Wc.seq (Wc.enter (Wl.bs 0 4 [(14,(.gptr 4 (List.map encD l) (Nat.add (i*4) 0)))] [((0≤(i:Int))∧((i:Int)<(List.length (List.map encD l):Int)))] (.cons (by omega) .nil) ?_)))))
   refine Wl.l 4 [(15,(.int .i64 ((List.getD l i dc0).kind)))] (@Go.AM.ldLk (hp [Obj.row 0 26 4 0 (some 1) [V.agg [V.int .i64 0,V.str [],V.int .i64 0,V.nils]]]) (l) (i) (by omega)) ?_
   refine Wl.b0 5 6 [(16,(.bool (!decide ((List.getD l i dc0).kind=0))))] ?_
   refine Wl.dn 6 ?_
   refine Wc.condN (p:=(List.getD l i dc0).kind=0) (by kernel_rfl) (by kernel_rfl) (fun c2=>?_) (fun c2=>?_)
   ·refine Wc.enter (Wl.bs 0 4 [(17,.nils),(20,(.gptr 4 (List.map encD l) (i*4)))] [((0≤(i:Int))∧((i:Int)<(List.length (List.map encD l):Int)))] (.cons (by omega) .nil) ?_)
    refine Wl.l 4 [(21,(.agg [(.int .i64 ((List.getD l i dc0).kind)),(.str ((List.getD l i dc0).text)),(.int .i64 ((List.getD l i dc0).n)),(.osl 4 (esD (List.getD l i dc0)))]))] (@Go.AM.ldL (hp [Obj.row 0 26 4 0 (some 1) [V.agg [V.int .i64 0,V.str [],V.int .i64 0,V.nils]]]) (l) (i) (by omega)) ?_
    refine Wl.bn 5 8 [(3,(.sl 1 0 0 1 none))] (hp [.row 0 26 4 0 (some 1) [(.agg [(.int .i64 0),(.str []),(.int .i64 0),.nils])],.row 0 26 4 0 none [(.agg [(.int .i64 ((List.getD l i dc0).kind)),(.str ((List.getD l i dc0).text)),(.int .i64 ((List.getD l i dc0).n)),(.osl 4 (esD (List.getD l i dc0)))])]]) [(([V.agg [V.int .i64 (List.getD l i dc0).kind,V.str (List.getD l i dc0).text,V.int .i64 (List.getD l i dc0).n,V.osl 4 (esD (List.getD l i dc0))]]≠[])∧((1≤(1099511627776:Nat))∧(1*56≤(1099511627776:Nat))))] (.cons (by simp) .nil) ?_
    refine Wl.dn 8 (Wc.w [(4,(.int .i64 ((i:Int)+1)))] [(i64r ((i:Int)+1))] (.cons (by omega) .nil) ?_)
    have hi':i<l.length:=by omega
    refine ⟨(i+1,[l.getD i dc0]),?_,⟨by omega,?_⟩,by omega⟩
    ·exact Vw.le (Le.on [0,2,3,4] (by kernel_rfl))
    rw [qs5 _ hi',← hf,zv4 (by simp only [c2];rfl)];rfl
   refine Wc.skip (Wc.w [(4,(.int .i64 ((i:Int)+1)))] [(i64r ((i:Int)+1))] (.cons (by omega) .nil) ?_)
   have hi':i<l.length:=by omega
   refine ⟨(i+1,[]),?_,⟨by omega,?_⟩,by omega⟩
   ·exact Vw.le (Le.on [0,2,3,4] (by kernel_rfl))
   rw [qs5 _ hi',← hf,x54 (by simp only [c2];rfl)];rfl
  refine Wc.exit (z8.here (Wc.seq (Wc.seq (Wc.w0 [(26,(.bool true))] ?_))))
  refine Wc.ct (Wc.seq (Wc.w0 [] ?_))
  refine Wc.ret ?_
  refine retX.mk (.agg [(.int .i64 0),(.str []),(.int .i64 0),.nils]) ⟨rfl,rfl⟩ (by kernel_rfl) ?_
  have e:l.take i=l:=List.take_of_length_le (by omega)
  rw [e] at hf
  exact ⟨.agg [.int .i64 0,.str [],.int .i64 0,.nils],by kernel_rfl,by rw [zy9 hf];exact zl8⟩
 simp only [zj6 hg,zk5 hg]
 refine Wc.seq (Wc.seq (Wc.wn0 [(0,(.osl 4 (List.map encD l))),(2,(.ptr 0 0 0)),(3,(.sl 1 0 0 (List.length gs) none)),(4,(.int .i64 (i:Int))),(8,(.bool (decide ((i:Int)<(List.length (List.map encD l):Int)))))] (hp [.row 0 26 4 0 (some 1) [(.agg [(.int .i64 0),(.str []),(.int .i64 0),.nils])],.row 0 26 4 0 none (List.map encD gs)]) ?_))
 refine Wc.cq (p:=(i:Int)<(List.length (List.map encD l):Int)) (fun c1=>?_) (fun c1=>?_)
 ·refine Wc.skip (Wc.seq (Wc.block (Wc.seq (Wc.enter (Wl.bs 0 4 [(14,(.gptr 4 (List.map encD l) (Nat.add (i*4) 0)))] [((0≤(i:Int))∧((i:Int)<(List.length (List.map encD l):Int)))] (.cons (by omega) .nil) ?_)))))
  refine Wl.l 4 [(15,(.int .i64 ((List.getD l i dc0).kind)))] (@Go.AM.ldLk (hp [Obj.row 0 26 4 0 (some 1) [V.agg [V.int .i64 0,V.str [],V.int .i64 0,V.nils]],Obj.row 0 26 4 0 none (List.map encD gs)]) (l) (i) (by omega)) ?_
  refine Wl.b0 5 6 [(16,(.bool (!decide ((List.getD l i dc0).kind=0))))] ?_
  refine Wl.dn 6 ?_
  refine Wc.condN (p:=(List.getD l i dc0).kind=0) (by kernel_rfl) (by kernel_rfl) (fun c2=>?_) (fun c2=>?_)
  ·refine Wc.enter (Wl.bs 0 4 [(17,(.sl 1 0 0 (List.length gs) none)),(20,(.gptr 4 (List.map encD l) (i*4)))] [((0≤(i:Int))∧((i:Int)<(List.length (List.map encD l):Int)))] (.cons (by omega) .nil) ?_)
   refine Wl.l 4 [(21,(.agg [(.int .i64 ((List.getD l i dc0).kind)),(.str ((List.getD l i dc0).text)),(.int .i64 ((List.getD l i dc0).n)),(.osl 4 (esD (List.getD l i dc0)))]))] (@Go.AM.ldL (hp [Obj.row 0 26 4 0 (some 1) [V.agg [V.int .i64 0,V.str [],V.int .i64 0,V.nils]],Obj.row 0 26 4 0 none (List.map encD gs)]) (l) (i) (by omega)) ?_
   refine Wl.bn 5 8 [(3,(.sl 1 1 0 (List.length gs+List.length [V.agg [V.int .i64 (List.getD l i dc0).kind,V.str (List.getD l i dc0).text,V.int .i64 (List.getD l i dc0).n,V.osl 4 (esD (List.getD l i dc0))]]) none))] (hp [.row 0 26 4 0 (some 1) [(.agg [(.int .i64 0),(.str []),(.int .i64 0),.nils])],.row 1 26 4 0 none (List.map encD gs++[V.agg [V.int .i64 (List.getD l i dc0).kind,V.str (List.getD l i dc0).text,V.int .i64 (List.getD l i dc0).n,V.osl 4 (esD (List.getD l i dc0))]])]) [(((0:Nat)=0)∧(([V.agg [V.int .i64 (List.getD l i dc0).kind,V.str (List.getD l i dc0).text,V.int .i64 (List.getD l i dc0).n,V.osl 4 (esD (List.getD l i dc0))]]≠[])∧((List.length gs=List.length (List.map encD gs))∧(((0:Nat)≤List.length gs)∧((List.length gs+List.length [V.agg [V.int .i64 (List.getD l i dc0).kind,V.str (List.getD l i dc0).text,V.int .i64 (List.getD l i dc0).n,V.osl 4 (esD (List.getD l i dc0))]]≤(1099511627776:Nat))∧((List.length gs+List.length [V.agg [V.int .i64 (List.getD l i dc0).kind,V.str (List.getD l i dc0).text,V.int .i64 (List.getD l i dc0).n,V.osl 4 (esD (List.getD l i dc0))]])*56≤(1099511627776:Nat)))))))] (.cons (⟨rfl,by simp,by simp,by omega,by simp only [List.length_cons,List.length_nil];omega,by simp only [List.length_cons,List.length_nil];omega⟩) .nil) ?_
   refine Wl.dn 8 (Wc.w [(4,(.int .i64 ((i:Int)+1)))] [(i64r ((i:Int)+1))] (.cons (by omega) .nil) ?_)
   have hi':i<l.length:=by omega
   refine ⟨(i+1,gs++[l.getD i dc0]),?_,⟨by omega,?_⟩,by omega⟩
   ·simp only [zj6 (show 0<(gs++[l.getD i dc0]).length by simp),zk5 (show 0<(gs++[l.getD i dc0]).length by simp)]
    rw [List.map_append,List.length_append]
    exact Vw.gk [(0,false),(1,true)] [(∀ (e:V),e∈List.map encD gs++[V.agg [V.int .i64 (List.getD l i dc0).kind,V.str (List.getD l i dc0).text,V.int .i64 (List.getD l i dc0).n,V.osl 4 (esD (List.getD l i dc0))]]→x2 (x4 3) (V.cells e)=true),(0=0),(1=1)] (.cons (by exact w6 (x3 (fun _=>rfl) _) (q63 rfl)) (.cons (by omega) (.cons (by omega) .nil)))
   rw [qs5 _ hi',← hf,zv4 (by simp only [c2];rfl)]
  refine Wc.skip (Wc.w [(4,(.int .i64 ((i:Int)+1)))] [(i64r ((i:Int)+1))] (.cons (by omega) .nil) ?_)
  have hi':i<l.length:=by omega
  refine ⟨(i+1,gs),?_,⟨by omega,?_⟩,by omega⟩
  ·simp only [zj6 hg,zk5 hg]
   exact Vw.le (Le.on [0,2,3,4] (by kernel_rfl))
  rw [qs5 _ hi',← hf,x54 (by simp only [c2];rfl),List.append_nil]
 refine Wc.exit (z8.here (Wc.seq (Wc.seq ?_)))
 let v1:V:=(.bool (decide ((List.length gs:Int)=0)))
 refine Wc.w0 [(26,v1)] ?_
 refine Wc.cq (p:=(List.length gs:Int)=0) (fun c3=>absurd c3 (show ¬ ((List.length gs:Int)=0) from (by omega))) (fun c3=>?_)
 refine Wc.skip (Wc.seq (Wc.seq ?_))
 let v2:V:=(.bool (decide ((List.length gs:Int)=1)))
 refine Wc.w0 [(30,v2)] ?_
 refine Wc.cq (p:=(List.length gs:Int)=1) (fun c4=>?_) (fun c4=>?_)
 ·refine Wc.seq (Wc.enter (Wl.bs 0 2 [(32,(.ptr 1 0 0))] [(((0:Int)≤0)∧(0<(List.length gs:Int)))] (.cons (by omega) .nil) ?_))
  let v3:V:=(.sl 1 0 0 (List.length gs) none)
  let v4:V:=(.bool (decide ((i:Int)<(List.length (List.map encD l):Int))))
  refine Wl.load (b:=(base 24 36)) (t:=26) (a:=(.ptr 1 0 0)) (d:=(some 33)) 2 (encD (List.getD ?l 0 dc0)) [0,2,3,4,8,26,30,33] [(0,(.osl 4 (List.map encD l))),(2,(.ptr 0 0 0)),(3,v3),(4,(.int .i64 (i:Int))),(8,v4),(26,v1),(30,v2),(33,(.agg [(.int .i64 ((List.getD ?l 0 dc0).kind)),(.str ((List.getD ?l 0 dc0).text)),(.int .i64 ((List.getD ?l 0 dc0).n)),(.osl 4 (esD (List.getD ?l 0 dc0)))]))] (by kernel_rfl) (@Go.AM.ldR0 (hp [Obj.row 0 26 4 0 (some 1) [V.agg [V.int .i64 0,V.str [],V.int .i64 0,V.nils]],Obj.row 0 26 4 0 none (List.map encD gs)]) (1) (0) _ _ _ (by rfl) (by omega)) (by kernel_rfl) ?_
  refine Wl.bn0 3 4 [(0,(.osl 4 (List.map encD l))),(2,(.ptr 0 0 0)),(3,v3),(4,(.int .i64 (i:Int))),(8,v4),(26,v1),(30,v2)] (hp [.row 0 26 4 0 (some 1) [(.agg [(.int .i64 ((List.getD gs 0 dc0).kind)),(.str ((List.getD gs 0 dc0).text)),(.int .i64 ((List.getD gs 0 dc0).n)),(.osl 4 (esD (List.getD gs 0 dc0)))])],.row 0 26 4 0 none (List.map encD gs)]) ?_
  refine Wl.dn 4 (Wc.ret ?_)
  refine retX.mk (.agg [(.int .i64 ((List.getD gs 0 dc0).kind)),(.str ((List.getD gs 0 dc0).text)),(.int .i64 ((List.getD gs 0 dc0).n)),(.osl 4 (esD (List.getD gs 0 dc0)))]) ⟨rfl,rfl⟩ (by kernel_rfl) ?_
  have e:l.take i=l:=List.take_of_length_le (by omega)
  rw [e] at hf
  exact ⟨_,rfl,by rw [xt7 hf (by omega)];exact .refl _⟩
 refine Wc.skip (Wc.seq ?_)
 let v5:V:=(.gsl 4 (List.map encD gs) none)
 let v6:V:=(.bool (decide ((i:Int)<(List.length (List.map encD l):Int))))
 refine Wc.view (Vw.pub (b:=(base 24 36)) 3 (.sl 1 0 0 (List.length gs) none) v5 [0,2,3,4,8,26,30] [(0,(.osl 4 (List.map encD l))),(2,(.ptr 0 0 0)),(3,v5),(4,(.int .i64 (i:Int))),(8,v6),(26,v1),(30,v2)] (by kernel_rfl) (by kernel_rfl) (z99 (h:=(hp [.row 0 26 4 0 (some 1) [(.agg [(.int .i64 0),(.str []),(.int .i64 0),.nils])],.row 0 26 4 0 none (List.map encD gs)])) (r:=1) (ver:=0) (n:=(List.length gs)) (c:=none) (ty:=26) (sz:=4) (pb:=0) (cap:=none) (es:=(List.map encD gs)) (by kernel_rfl) (by simp) (zh5 (fun _ _=>rfl) _)) (by simp [lost]) (by kernel_rfl)) ?_
 refine Wc.wn0 [(0,(.osl 4 (List.map encD l))),(2,(.ptr 0 0 0)),(3,v5),(4,(.int .i64 (i:Int))),(8,v6),(26,v1),(30,v2)] (hp [.row 0 26 4 0 (some 1) [(.agg [(.int .i64 7),(.str []),(.int .i64 0),v5])],.row 0 26 4 (Nat.max 0 (Nat.add 0 (List.length gs))) none (List.map encD gs)]) ?_
 refine Wc.ret ?_
 refine retX.mk (.agg [(.int .i64 7),(.str []),(.int .i64 0),(.gsl 4 (List.map encD gs) none)]) ⟨rfl,rfl⟩ (by kernel_rfl) ?_
 have e:l.take i=l:=List.take_of_length_le (by omega)
 rw [e] at hf
 exact ⟨.agg [.int .i64 7,.str [],.int .i64 0,.gsl 4 (gs.map encD) none],by kernel_rfl,by rw [xk7 hf hg (by omega)];exact zg9 rfl⟩
end Go.AM
namespace Go.AM
open Go.Proofs
set_option maxRecDepth 100000
set_option maxHeartbeats 4000000
noncomputable def docS (l:List UInt8) (ts:List (List UInt8)) (ds:List Dc) (i:Nat):Fr:=(base 9 140).on [(0,.osl 1 (l.map bV)),(2,.ptr 0 0 0),(3,match ds with | []=>.nils | _::_=>.sl 1 0 0 ds.length none),(4,.gsl 1 (ts.map V.str) (some 7)),(5,.int .i64 (i:Int))]
noncomputable def docH (ds:List Dc):Heap:=match ds with | []=>hp [.row 0 26 4 0 (some 1) [.agg [.int .i64 0,.str [],.int .i64 0,.nils]]] | _::_=>hp [.row 0 26 4 0 (some 1) [.agg [.int .i64 0,.str [],.int .i64 0,.nils]],.row 0 26 4 0 none (ds.map encD)]
theorem x61 {l:List UInt8} {ts:List (List UInt8)} {gs:List Dc} {i:Nat} (h:0<gs.length):docS l ts gs i=(base 9 140).on [(0,.osl 1 (l.map bV)),(2,.ptr 0 0 0),(3,.sl 1 0 0 gs.length none),(4,.gsl 1 (ts.map V.str) (some 7)),(5,.int .i64 (i:Int))]:=by
 cases gs with
 | nil=>simp at h
 | cons f fs=>rfl
theorem x59 {gs:List Dc} (h:0<gs.length):docH gs=hp [.row 0 26 4 0 (some 1) [.agg [.int .i64 0,.str [],.int .i64 0,.nils]],.row 0 26 4 0 none (gs.map encD)]:=by
 cases gs with
 | nil=>simp at h
 | cons f fs=>rfl
theorem agg5:q30 Tryd.prog 5=some false:=by kernel_rfl
theorem siz5:size Tryd.prog 5=1:=by kernel_rfl
theorem agg9:q30 Tryd.prog 9=some false:=by kernel_rfl
theorem siz9:size Tryd.prog 9=1:=by kernel_rfl
theorem ldB {h:Heap} (l:List UInt8) (k:Nat) (hk:k<l.length):load Tryd.prog h 5 (.gptr 1 (l.map bV) (k*1))=some (.int .u8 ((l.getD k 0).toNat:Int)):=zv8 (fun _=>rfl) 0 agg5 siz5 rfl hk
theorem ldT {h:Heap} (l:List (List UInt8)) (k:Nat) (hk:k<l.length):load Tryd.prog h 9 (.gptr 1 (l.map V.str) (k*1))=some (.str (l.getD k [])):=zv8 (fun _=>rfl) [] agg9 siz9 rfl hk
theorem cRowN:Cp Tryd.prog EU 24 [.nils] (encD (rowD [])):=.args (.cons (.nils 4) .nil) (cRow (l:=[]) (by simp))
theorem zw6:encD ⟨6,[],0,[⟨7,[],0,[]⟩]⟩=V.agg [.int .i64 6,.str [],.int .i64 0,.osl 4 [.agg [.int .i64 7,.str [],.int .i64 0,.osl 4 []]]]:=by
 simp [encD,qg8]
theorem xu5:encD (rowD [])=V.agg [.int .i64 0,.str [],.int .i64 0,.osl 4 []]:=by
 rw [zy9 rfl]
 simp [encD,qg8,dc0]
theorem cInO {l:List Dc} {n:Int}:Cp Tryd.prog EU 22 [.int .i64 n,.agg [.int .i64 7,.str [],.int .i64 0,.osl 4 (l.map encD)]] (encD ⟨5,[],n,[⟨7,[],0,l⟩]⟩):=by
 have:=cIn (d:=⟨7,[],0,l⟩) (n:=n)
 rw [x70 7] at this;exact this
theorem cFitO {l:List Dc}:Cp Tryd.prog EU 23 [.agg [.int .i64 7,.str [],.int .i64 0,.osl 4 (l.map encD)]] (encD ⟨6,[],0,[⟨7,[],0,l⟩]⟩):=by
 have:=cFit (d:=⟨7,[],0,l⟩)
 rw [x70 7] at this;exact this
theorem cRowO {l:List Dc} (hl:l.length≤100000):Cp Tryd.prog EU 24 [.osl 4 (l.map encD)] (encD (rowD l)):=cRow hl
theorem zi5 {s:Fr} {gs kp:List Dc} {k:Nat} (hkp:kp=gs.take k):Vw 0 s (hp [.row 0 26 4 0 (some 1) [.agg [.int .i64 0,.str [],.int .i64 0,.nils]],.row 0 26 4 0 none (gs.map encD)]) s (hp [.row 0 26 4 0 (some 1) [.agg [.int .i64 0,.str [],.int .i64 0,.nils]],.row 0 26 4 0 none (kp.map encD)]):=by
 have hv:Vw 0 s (hp [.row 0 26 4 0 (some 1) [.agg [.int .i64 0,.str [],.int .i64 0,.nils]],.row 0 26 4 0 none (gs.map encD)]) s ((hp [.row 0 26 4 0 (some 1) [.agg [.int .i64 0,.str [],.int .i64 0,.nils]],.row 0 26 4 0 none (gs.map encD)]).set 1 (.row 0 26 4 0 none (List.map encD kp))):=Vw.row (N:=0) (s:=s) (h:=hp [.row 0 26 4 0 (some 1) [.agg [.int .i64 0,.str [],.int .i64 0,.nils]],.row 0 26 4 0 none (gs.map encD)]) (ver:=0) (ty:=26) (sz:=4) (pub:=0) (cap:=none) (es:=List.map encD gs) 1 (List.map encD kp) (by kernel_rfl) (Nat.zero_le _) (by rw [hkp,List.length_map,List.length_map,List.length_take];omega) (by rw [hkp];exact xu0)
 have hw:Vw 0 s ((hp [.row 0 26 4 0 (some 1) [.agg [.int .i64 0,.str [],.int .i64 0,.nils]],.row 0 26 4 0 none (gs.map encD)]).set 1 (.row 0 26 4 0 none (List.map encD kp))) s (hp [.row 0 26 4 0 (some 1) [.agg [.int .i64 0,.str [],.int .i64 0,.nils]],.row 0 26 4 0 none (kp.map encD)]):=Vw.eq (N:=0) (s:=s) (s':=s) (h:=(hp [.row 0 26 4 0 (some 1) [.agg [.int .i64 0,.str [],.int .i64 0,.nils]],.row 0 26 4 0 none (gs.map encD)]).set 1 (.row 0 26 4 0 none (List.map encD kp))) (h':=hp [.row 0 26 4 0 (some 1) [.agg [.int .i64 0,.str [],.int .i64 0,.nils]],.row 0 26 4 0 none (kp.map encD)]) rfl (by kernel_rfl)
 exact Vw.trans hv hw
theorem q29 {l:List UInt8} {ts:List (List UInt8)} {i m:Nat} {s:Fr} {h:Heap} (keep:List Dc) (d:Dc) {x:V}
  (hv:Vw 0 s h ((base 9 140).on [(0,.osl 1 (l.map bV)),(2,.ptr 0 0 0),(3,.sl 1 0 0 (m+1) none),(4,.gsl 1 (ts.map V.str) (some 7)),(5,.int .i64 ((i+2:Nat):Int))]) (hp [.row 0 26 4 0 (some 1) [.agg [.int .i64 0,.str [],.int .i64 0,.nils]],.row 0 26 4 0 none (keep.map encD++[x])]))
  (hm:m=keep.length) (hx:Wke x (encD d)) (h2:i%2=0) (hi:i+1<l.length) (h80:i<80) (hd:q82 l (i/2+1)=keep++[d]) :
  ∃ a':Nat×List Dc,Vw 0 s h (docS l ts a'.2 a'.1) (docH a'.2)∧(a'.1%2=0∧a'.1/2≤docN l∧a'.2=q82 l (a'.1/2))∧80-a'.1<80-i:=by
 have hdn:docN l=min (l.length/2) 40:=rfl
 have hg:0<(keep++[d]).length:=by simp
 refine ⟨(i+2,keep++[d]),?_,⟨by omega,by simp only;omega,by show keep++[d]=q82 l ((i+2)/2);rw [← hd,show (i+2)/2=i/2+1 by omega]⟩,by simp only;omega⟩
 simp only [x61 hg,x59 hg]
 subst hm
 rw [show (keep++[d]).length=keep.length+1 by simp]
 refine Vw.trans hv (Vw.trans (Vw.row 1 ((keep++[d]).map encD) rfl (Nat.zero_le _) (by simp) (xz5 hx)) ?_)
 exact Vw.eq rfl (by kernel_rfl)
theorem cDoc {l:List UInt8}:Cp Tryd.prog EU 9 [.osl 1 (l.map bV)] (encD (qs0 l)):=by
 refine Cp.bodyG (fn:=Tryd.f9) Tryd.func9 rfl (by kernel_rfl) ?_
 refine Wc.seq (Wc.wn0 [(0,(.osl 1 (List.map bV l))),(2,(.ptr 0 0 0))] (hp [.row 0 26 4 0 (some 1) [(.agg [(.int .i64 0),(.str []),(.int .i64 0),.nils])]]) ?_)
 refine Wc.seq (Wc.w0 [(3,.nils)] ?_)
 refine Wc.seq (Wc.w0 [(4,(.gsl 1 [(.str [97]),(.str [98,99,100]),(.str [195,169,226,130,172]),(.str [120,10,121]),(.str [32]),(.str [40]),(.str [97,32,108,111,110,103,32,119,111,114,100])] (some 7)))] ?_)
 refine Wc.seq (Wc.seq (Wc.w0 [(5,(.int .i64 0))] ?_))
 refine Wc.block ?_
 refine Wc.loopV (α:=Nat×List Dc) (fun a=>docS l q09 a.2 a.1) (fun a=>docH a.2) (fun a=>a.1%2=0∧a.1/2≤docN l∧a.2=q82 l (a.1/2)) (fun a=>80-a.1) (0,[]) (Vw.le (Le.on [0,2,3,4,5] (by kernel_rfl))) ⟨rfl,Nat.zero_le _,rfl⟩ ?_
 rintro ⟨i,gs⟩ ⟨h2,hi,hf⟩
 simp only at h2 hi hf
 have hln:(l.map bV).length=l.length:=List.length_map _
 have hgl:gs.length≤12*(i/2):=by rw [hf];exact xh5 l (i/2)
 have hdn:docN l=min (l.length/2) 40:=rfl
 have hdm:docN l≤40:=by omega
 have et:Int.toNat ((i:Int)+1)=i+1:=by omega
 have hB:=(l.getD (Int.toNat ((i:Int)+1)) 0).toNat_lt
 have hA:=(l.getD i 0).toNat_lt
 have hstep:q82 l (i/2+1)=q28 gs (l.getD i 0).toNat (l.getD (i+1) 0).toNat:=by rw [hf];exact xd6 l h2
 have hmin:min ((↑(UInt8.toNat (List.getD l (Int.toNat ((↑i:Int)+1)) 0)):Int)%4) 0=0:=by omega
 have hne':∀ k,k<7→q09.getD k []≠[]:=by decide
 have htl:q09.length=7:=rfl
 generalize hts:q09=ts at *
 have hne:=hne' (Int.toNat ((↑(UInt8.toNat (List.getD l (Int.toNat ((↑i:Int)+1)) 0)):Int)%7)) (by omega)
 rcases Nat.eq_zero_or_pos gs.length with hg | hg
 ·have:=List.length_eq_zero_iff.1 hg
  subst this
  change Wc Tryd.prog EU _ ((base 9 140).on [(0,.osl 1 (l.map bV)),(2,.ptr 0 0 0),(3,.nils),(4,.gsl 1 (ts.map V.str) (some 7)),(5,.int .i64 (i:Int))]) (hp [.row 0 26 4 0 (some 1) [.agg [.int .i64 0,.str [],.int .i64 0,.nils]]]) _ _ _
  refine Wc.seq (Wc.seq (Wc.enter (Wl.bn 0 6 [(0,(.osl 1 (List.map bV l))),(2,(.ptr 0 0 0)),(3,.nils),(4,(.gsl 1 (List.map V.str ts) (some 7))),(5,(.int .i64 (i:Int))),(14,(.bool (decide ((i:Int)+1<(List.length (List.map bV l):Int)))))] (hp [.row 0 26 4 0 (some 1) [(.agg [(.int .i64 0),(.str []),(.int .i64 0),.nils])]]) [(i64r ((i:Int)+1))] (.cons (by omega) .nil) ?_)))
  let v1:V:=(.agg [(.int .i64 0),(.str []),(.int .i64 0),.nils])
  let v2:Obj:=.row 0 26 4 0 (some 1) [v1]
  refine Wl.join (b:=(base 9 140)) (p:=(i:Int)+1<(List.length (List.map bV l):Int)) [(0,(.osl 1 (List.map bV l))),(2,(.ptr 0 0 0)),(3,.nils),(4,(.gsl 1 (List.map V.str ts) (some 7))),(5,(.int .i64 (i:Int))),(17,(.bool (decide (((i:Int)+1<(List.length (List.map bV l):Int))∧((i:Int)<80)))))] (hp [v2]) (fun c1=>?_) (fun c1=>?_) ?_
  ·refine Wl.k 14 (.bool (decide ((i:Int)+1<(List.length (List.map bV l):Int)))) (.bool true) (by have e:=decide_eq_true c1;simp only [e] <;> rfl) ?_
   refine Wl.b0 6 9 [(17,(.bool (decide ((i:Int)<80))))] ?_
   refine Wl.dn 9 ?_
   exact ⟨Le.on' [0,2,3,4,5,17] [(0,(.osl 1 (List.map bV l))),(2,(.ptr 0 0 0)),(3,.nils),(4,(.gsl 1 (List.map V.str ts) (some 7))),(5,(.int .i64 ((↑i:Int)))),(17,(.bool (decide ((↑i:Int)<80))))] (by kernel_rfl) (by rw [qy8 c1] <;> rfl),by kernel_rfl⟩
  ·refine Wl.k 14 (.bool (decide ((i:Int)+1<(List.length (List.map bV l):Int)))) (.bool false) (by have e:=decide_eq_false c1;simp only [e] <;> rfl) ?_
   refine Wl.b0 6 9 [(17,(.bool false))] ?_
   refine Wl.dn 9 ?_
   exact ⟨Le.on' [0,2,3,4,5,17] [(0,(.osl 1 (List.map bV l))),(2,(.ptr 0 0 0)),(3,.nils),(4,(.gsl 1 (List.map V.str ts) (some 7))),(5,(.int .i64 ((↑i:Int)))),(17,(.bool false))] (by kernel_rfl) (by rw [qo2 c1] <;> rfl),by kernel_rfl⟩
  refine Wc.cq (p:=(i:Int)+1<(List.length (List.map bV l):Int)∧(i:Int)<80) (fun c2=>?_) (fun c2=>?_)
  ·refine Wc.skip (Wc.seq (Wc.block (Wc.seq (Wc.enter (Wl.bs 0 4 [(17,(.bool (decide ((i:Int)+1<(List.length (List.map bV l):Int)∧(i:Int)<80)))),(23,(.gptr 1 (List.map bV l) (Int.toNat ((i:Int)+1)*1)))] [(i64r ((i:Int)+1)),((0≤(i:Int)+1)∧((i:Int)+1<(List.length (List.map bV l):Int)))] (.cons (by omega) (.cons (by omega) .nil)) ?_)))))
   refine Wl.l 4 [(24,(.int .u8 ((UInt8.toNat (List.getD l (Int.toNat ((i:Int)+1)) 0):Int))))] (@Go.AM.ldB (hp [Obj.row 0 26 4 0 (some 1) [V.agg [V.int .i64 0,V.str [],V.int .i64 0,V.nils]]]) (l) (Int.toNat ((i:Int)+1)) (by omega)) ?_
   refine Wl.bs 5 11 [(6,(.int .i64 (min ((UInt8.toNat (List.getD l (Int.toNat ((i:Int)+1)) 0):Int)%4) 0)))] [((0≤(UInt8.toNat (List.getD l (Int.toNat ((i:Int)+1)) 0):Int))∧((0:Int)<4)),(i64r ((UInt8.toNat (List.getD l (Int.toNat ((i:Int)+1)) 0):Int)%4))] (.cons (by omega) (.cons (by omega) .nil)) ?_
   refine Wl.dn 11 (Wc.seq (Wc.w0 [(7,.nils)] ?_))
   refine Wc.seq ?_
   simp only [hmin]
   refine Wc.wn [(0,(.osl 1 (List.map bV l))),(2,(.ptr 0 0 0)),(3,.nils),(4,(.gsl 1 (List.map V.str ts) (some 7))),(5,(.int .i64 (i:Int))),(6,(.int .i64 0)),(7,.nils),(17,(.bool (decide ((i:Int)+1<(List.length (List.map bV l):Int)∧(i:Int)<80))))] (hp [.row 0 26 4 0 (some 1) [(.agg [(.int .i64 0),(.str []),(.int .i64 0),.nils])]]) [(i64r (0:Int))] (.cons (by omega) .nil) ?_
   refine Wc.seq (Wc.enter (Wl.bs 0 3 [(40,(.gptr 1 (List.map bV l) (i*1)))] [((0≤(i:Int))∧((i:Int)<(List.length (List.map bV l):Int)))] (.cons (by omega) .nil) ?_))
   refine Wl.l 3 [(41,(.int .u8 ((UInt8.toNat (List.getD l i 0):Int))))] (@Go.AM.ldB (hp [Obj.row 0 26 4 0 (some 1) [V.agg [V.int .i64 0,V.str [],V.int .i64 0,V.nils]]]) (l) (i) (by omega)) ?_
   refine Wl.bs 4 5 [(42,(.int .u8 ((UInt8.toNat (List.getD l i 0):Int)%10)))] [((0≤(UInt8.toNat (List.getD l i 0):Int))∧((0:Int)<10))] (.cons (by omega) .nil) ?_
   refine Wl.dn 5 (Wc.block (Wc.seq (Wc.seq (Wc.w0 [(54,(.bool (decide ((UInt8.toNat (List.getD l i 0):Int)%10=0))))] ?_))))
   refine Wc.cq (p:=(UInt8.toNat (List.getD l i 0):Int)%10=0) (fun c1=>?_) (fun c1=>?_)
   ·refine Wc.skip ?_
    refine Wc.cq (p:=(UInt8.toNat (List.getD l i 0):Int)%10=0) (fun c3=>?_) (fun c3=>absurd (show (UInt8.toNat (List.getD l i 0):Int)%10=0 from c1) c3)
    refine Wc.enter (Wl.bs 0 6 [(58,.nils),(59,(.gsl 1 (List.map V.str ts) (some 7))),(63,(.gptr 1 (List.map bV l) (Int.toNat ((i:Int)+1)*1)))] [(i64r ((i:Int)+1)),((0≤(i:Int)+1)∧((i:Int)+1<(List.length (List.map bV l):Int)))] (.cons (by omega) (.cons (by omega) .nil)) ?_)
    refine Wl.l 6 [(64,(.int .u8 ((UInt8.toNat (List.getD l (Int.toNat ((i:Int)+1)) 0):Int))))] (@Go.AM.ldB (hp [Obj.row 0 26 4 0 (some 1) [V.agg [V.int .i64 0,V.str [],V.int .i64 0,V.nils]]]) (l) (Int.toNat ((i:Int)+1)) (by omega)) ?_
    refine Wl.bs 7 9 [(66,(.gptr 1 (List.map V.str ts) (Int.toNat ((UInt8.toNat (List.getD l (Int.toNat ((i:Int)+1)) 0):Int)%7)*1)))] [(((0:Int)≤(UInt8.toNat (List.getD l (Int.toNat ((i:Int)+1)) 0):Int))∧((0:Int)<7)),(((0:Int)≤(UInt8.toNat (List.getD l (Int.toNat ((i:Int)+1)) 0):Int)%7)∧((UInt8.toNat (List.getD l (Int.toNat ((i:Int)+1)) 0):Int)%7<(List.length (List.map V.str ts):Int)))] (.cons (by omega) (.cons (by (simp;omega)) .nil)) ?_
    refine Wl.l 9 [(67,(.str (List.getD ts (Int.toNat ((UInt8.toNat (List.getD l (Int.toNat ((i:Int)+1)) 0):Int)%7)) [])))] (@Go.AM.ldT (hp [Obj.row 0 26 4 0 (some 1) [V.agg [V.int .i64 0,V.str [],V.int .i64 0,V.nils]]]) (ts) (Int.toNat ((UInt8.toNat (List.getD l (Int.toNat ((i:Int)+1)) 0):Int)%7)) (by omega)) ?_
    refine Wl.c 10 [(68,(.agg [(.int .i64 1),(.str ((Dc.mk 1 (List.getD ts (Int.toNat ((UInt8.toNat (List.getD l (Int.toNat ((i:Int)+1)) 0):Int)%7)) []) 0 []).text)),(.int .i64 0),(.osl 4 (esD (Dc.mk 1 (List.getD ts (Int.toNat ((UInt8.toNat (List.getD l (Int.toNat ((i:Int)+1)) 0):Int)%7)) []) 0 [])))]))] (@Go.AM.cSay (List.getD ts (Int.toNat ((UInt8.toNat (List.getD l (Int.toNat ((i:Int)+1)) 0):Int)%7)) []) hne) ?_
    refine Wl.bn 11 14 [(3,(.sl 1 0 0 1 none))] (hp [.row 0 26 4 0 (some 1) [(.agg [(.int .i64 0),(.str []),(.int .i64 0),.nils])],.row 0 26 4 0 none [(.agg [(.int .i64 1),(.str ((Dc.mk 1 (List.getD ts (Int.toNat ((UInt8.toNat (List.getD l (Int.toNat ((i:Int)+1)) 0):Int)%7)) []) 0 []).text)),(.int .i64 0),(.osl 4 (esD (Dc.mk 1 (List.getD ts (Int.toNat ((UInt8.toNat (List.getD l (Int.toNat ((i:Int)+1)) 0):Int)%7)) []) 0 [])))])]]) [(([V.agg [V.int .i64 1,V.str (Dc.mk 1 (List.getD ts (Int.toNat ((UInt8.toNat (List.getD l (Int.toNat ((i:Int)+1)) 0):Int)%7)) []) (0:Int) []).text,V.int .i64 0,V.osl 4 (esD (Dc.mk 1 (List.getD ts (Int.toNat ((UInt8.toNat (List.getD l (Int.toNat ((i:Int)+1)) 0):Int)%7)) []) (0:Int) []))]]≠[])∧((1≤(1099511627776:Nat))∧(1*56≤(1099511627776:Nat))))] (.cons (by simp) .nil) ?_
    refine Wl.dn 14 (Wc.w [(5,(.int .i64 ((i:Int)+2)))] [(i64r ((i:Int)+2))] (.cons (by omega) .nil) ?_)
    subst hts
    exact q29 [] ⟨1,q09.getD ((l.getD (i+1) 0).toNat%7) [],0,[]⟩ (Vw.le (Le.on [0,2,3,4,5] (by kernel_rfl))) rfl (.refl rfl) h2 (by omega) (by omega) (by rw [hstep,qi2 _ _ _ (by omega)])
   refine Wc.seq (Wc.w0 [(54,(.bool (decide ((UInt8.toNat (List.getD l i 0):Int)%10=1))))] ?_)
   refine Wc.cq (p:=(UInt8.toNat (List.getD l i 0):Int)%10=1) (fun c4=>?_) (fun c4=>?_)
   ·refine Wc.skip ?_
    refine Wc.cq (p:=(UInt8.toNat (List.getD l i 0):Int)%10=1) (fun c5=>?_) (fun c5=>absurd (show (UInt8.toNat (List.getD l i 0):Int)%10=1 from c4) c5)
    refine Wc.enter (Wl.bs 0 6 [(58,.nils),(59,(.gsl 1 (List.map V.str ts) (some 7))),(63,(.gptr 1 (List.map bV l) (Int.toNat ((i:Int)+1)*1)))] [(i64r ((i:Int)+1)),((0≤(i:Int)+1)∧((i:Int)+1<(List.length (List.map bV l):Int)))] (.cons (by omega) (.cons (by omega) .nil)) ?_)
    refine Wl.l 6 [(64,(.int .u8 ((UInt8.toNat (List.getD l (Int.toNat ((i:Int)+1)) 0):Int))))] (@Go.AM.ldB (hp [Obj.row 0 26 4 0 (some 1) [V.agg [V.int .i64 0,V.str [],V.int .i64 0,V.nils]]]) (l) (Int.toNat ((i:Int)+1)) (by omega)) ?_
    refine Wl.bs 7 9 [(66,(.gptr 1 (List.map V.str ts) (Int.toNat ((UInt8.toNat (List.getD l (Int.toNat ((i:Int)+1)) 0):Int)%7)*1)))] [(((0:Int)≤(UInt8.toNat (List.getD l (Int.toNat ((i:Int)+1)) 0):Int))∧((0:Int)<7)),(((0:Int)≤(UInt8.toNat (List.getD l (Int.toNat ((i:Int)+1)) 0):Int)%7)∧((UInt8.toNat (List.getD l (Int.toNat ((i:Int)+1)) 0):Int)%7<(List.length (List.map V.str ts):Int)))] (.cons (by omega) (.cons (by (simp;omega)) .nil)) ?_
    refine Wl.l 9 [(67,(.str (List.getD ts (Int.toNat ((UInt8.toNat (List.getD l (Int.toNat ((i:Int)+1)) 0):Int)%7)) [])))] (@Go.AM.ldT (hp [Obj.row 0 26 4 0 (some 1) [V.agg [V.int .i64 0,V.str [],V.int .i64 0,V.nils]]]) (ts) (Int.toNat ((UInt8.toNat (List.getD l (Int.toNat ((i:Int)+1)) 0):Int)%7)) (by omega)) ?_
    refine Wl.c 10 [(68,(.agg [(.int .i64 1),(.str ((Dc.mk 1 (List.getD ts (Int.toNat ((UInt8.toNat (List.getD l (Int.toNat ((i:Int)+1)) 0):Int)%7)) []) 0 []).text)),(.int .i64 0),(.osl 4 (esD (Dc.mk 1 (List.getD ts (Int.toNat ((UInt8.toNat (List.getD l (Int.toNat ((i:Int)+1)) 0):Int)%7)) []) 0 [])))]))] (@Go.AM.cSay (List.getD ts (Int.toNat ((UInt8.toNat (List.getD l (Int.toNat ((i:Int)+1)) 0):Int)%7)) []) hne) ?_
    refine Wl.bn 11 14 [(3,(.sl 1 0 0 1 none))] (hp [.row 0 26 4 0 (some 1) [(.agg [(.int .i64 0),(.str []),(.int .i64 0),.nils])],.row 0 26 4 0 none [(.agg [(.int .i64 1),(.str ((Dc.mk 1 (List.getD ts (Int.toNat ((UInt8.toNat (List.getD l (Int.toNat ((i:Int)+1)) 0):Int)%7)) []) 0 []).text)),(.int .i64 0),(.osl 4 (esD (Dc.mk 1 (List.getD ts (Int.toNat ((UInt8.toNat (List.getD l (Int.toNat ((i:Int)+1)) 0):Int)%7)) []) 0 [])))])]]) [(([V.agg [V.int .i64 1,V.str (Dc.mk 1 (List.getD ts (Int.toNat ((UInt8.toNat (List.getD l (Int.toNat ((i:Int)+1)) 0):Int)%7)) []) (0:Int) []).text,V.int .i64 0,V.osl 4 (esD (Dc.mk 1 (List.getD ts (Int.toNat ((UInt8.toNat (List.getD l (Int.toNat ((i:Int)+1)) 0):Int)%7)) []) (0:Int) []))]]≠[])∧((1≤(1099511627776:Nat))∧(1*56≤(1099511627776:Nat))))] (.cons (by simp) .nil) ?_
    refine Wl.dn 14 (Wc.w [(5,(.int .i64 ((i:Int)+2)))] [(i64r ((i:Int)+2))] (.cons (by omega) .nil) ?_)
    subst hts
    exact q29 [] ⟨1,q09.getD ((l.getD (i+1) 0).toNat%7) [],0,[]⟩ (Vw.le (Le.on [0,2,3,4,5] (by kernel_rfl))) rfl (.refl rfl) h2 (by omega) (by omega) (by rw [hstep,qi2 _ _ _ (by omega)])
   refine Wc.w0 [(54,(.bool (decide ((UInt8.toNat (List.getD l i 0):Int)%10=2))))] ?_
   refine Wc.cq (p:=(UInt8.toNat (List.getD l i 0):Int)%10=2) (fun c6=>?_) (fun c6=>?_)
   ·refine Wc.enter (Wl.bs 0 6 [(58,.nils),(59,(.gsl 1 (List.map V.str ts) (some 7))),(63,(.gptr 1 (List.map bV l) (Int.toNat ((i:Int)+1)*1)))] [(i64r ((i:Int)+1)),((0≤(i:Int)+1)∧((i:Int)+1<(List.length (List.map bV l):Int)))] (.cons (by omega) (.cons (by omega) .nil)) ?_)
    refine Wl.l 6 [(64,(.int .u8 ((UInt8.toNat (List.getD l (Int.toNat ((i:Int)+1)) 0):Int))))] (@Go.AM.ldB (hp [Obj.row 0 26 4 0 (some 1) [V.agg [V.int .i64 0,V.str [],V.int .i64 0,V.nils]]]) (l) (Int.toNat ((i:Int)+1)) (by omega)) ?_
    refine Wl.bs 7 9 [(66,(.gptr 1 (List.map V.str ts) (Int.toNat ((UInt8.toNat (List.getD l (Int.toNat ((i:Int)+1)) 0):Int)%7)*1)))] [(((0:Int)≤(UInt8.toNat (List.getD l (Int.toNat ((i:Int)+1)) 0):Int))∧((0:Int)<7)),(((0:Int)≤(UInt8.toNat (List.getD l (Int.toNat ((i:Int)+1)) 0):Int)%7)∧((UInt8.toNat (List.getD l (Int.toNat ((i:Int)+1)) 0):Int)%7<(List.length (List.map V.str ts):Int)))] (.cons (by omega) (.cons (by (simp;omega)) .nil)) ?_
    refine Wl.l 9 [(67,(.str (List.getD ts (Int.toNat ((UInt8.toNat (List.getD l (Int.toNat ((i:Int)+1)) 0):Int)%7)) [])))] (@Go.AM.ldT (hp [Obj.row 0 26 4 0 (some 1) [V.agg [V.int .i64 0,V.str [],V.int .i64 0,V.nils]]]) (ts) (Int.toNat ((UInt8.toNat (List.getD l (Int.toNat ((i:Int)+1)) 0):Int)%7)) (by omega)) ?_
    refine Wl.c 10 [(68,(.agg [(.int .i64 1),(.str ((Dc.mk 1 (List.getD ts (Int.toNat ((UInt8.toNat (List.getD l (Int.toNat ((i:Int)+1)) 0):Int)%7)) []) 0 []).text)),(.int .i64 0),(.osl 4 (esD (Dc.mk 1 (List.getD ts (Int.toNat ((UInt8.toNat (List.getD l (Int.toNat ((i:Int)+1)) 0):Int)%7)) []) 0 [])))]))] (@Go.AM.cSay (List.getD ts (Int.toNat ((UInt8.toNat (List.getD l (Int.toNat ((i:Int)+1)) 0):Int)%7)) []) hne) ?_
    refine Wl.bn 11 14 [(3,(.sl 1 0 0 1 none))] (hp [.row 0 26 4 0 (some 1) [(.agg [(.int .i64 0),(.str []),(.int .i64 0),.nils])],.row 0 26 4 0 none [(.agg [(.int .i64 1),(.str ((Dc.mk 1 (List.getD ts (Int.toNat ((UInt8.toNat (List.getD l (Int.toNat ((i:Int)+1)) 0):Int)%7)) []) 0 []).text)),(.int .i64 0),(.osl 4 (esD (Dc.mk 1 (List.getD ts (Int.toNat ((UInt8.toNat (List.getD l (Int.toNat ((i:Int)+1)) 0):Int)%7)) []) 0 [])))])]]) [(([V.agg [V.int .i64 1,V.str (Dc.mk 1 (List.getD ts (Int.toNat ((UInt8.toNat (List.getD l (Int.toNat ((i:Int)+1)) 0):Int)%7)) []) (0:Int) []).text,V.int .i64 0,V.osl 4 (esD (Dc.mk 1 (List.getD ts (Int.toNat ((UInt8.toNat (List.getD l (Int.toNat ((i:Int)+1)) 0):Int)%7)) []) (0:Int) []))]]≠[])∧((1≤(1099511627776:Nat))∧(1*56≤(1099511627776:Nat))))] (.cons (by simp) .nil) ?_
    refine Wl.dn 14 (Wc.w [(5,(.int .i64 ((i:Int)+2)))] [(i64r ((i:Int)+2))] (.cons (by omega) .nil) ?_)
    subst hts
    exact q29 [] ⟨1,q09.getD ((l.getD (i+1) 0).toNat%7) [],0,[]⟩ (Vw.le (Le.on [0,2,3,4,5] (by kernel_rfl))) rfl (.refl rfl) h2 (by omega) (by omega) (by rw [hstep,qi2 _ _ _ (by omega)])
   refine Wc.seq (Wc.seq (Wc.w0 [(71,(.bool (decide ((UInt8.toNat (List.getD l i 0):Int)%10=3))))] ?_))
   refine Wc.cq (p:=(UInt8.toNat (List.getD l i 0):Int)%10=3) (fun c7=>?_) (fun c7=>?_)
   ·refine Wc.skip ?_
    refine Wc.cq (p:=(UInt8.toNat (List.getD l i 0):Int)%10=3) (fun c8=>?_) (fun c8=>absurd (show (UInt8.toNat (List.getD l i 0):Int)%10=3 from c7) c8)
    refine Wc.wn [(3,(.sl 1 0 0 1 none))] (hp [v2,.row 0 26 4 0 none [(.agg [(.int .i64 2),(.str []),(.int .i64 0),.nils])]]) [(([V.agg (j1 [V.int .i64 0,V.str [],V.int .i64 0,V.nils] (0:Nat) (V.cells (V.int .i64 2)))]≠[])∧((1≤(1099511627776:Nat))∧(1*56≤(1099511627776:Nat))))] (.cons (by simp) .nil) ?_
    refine Wc.w [(5,(.int .i64 ((i:Int)+2)))] [(i64r ((i:Int)+2))] (.cons (by omega) .nil) ?_
    exact q29 [] ⟨2,[],0,[]⟩ (Vw.le (Le.on [0,2,3,4,5] (by kernel_rfl))) rfl qi7 h2 (by omega) (by omega) (by rw [hstep,qm3 _ _ _ (by omega) (by omega)])
   refine Wc.w0 [(71,(.bool (decide ((UInt8.toNat (List.getD l i 0):Int)%10=4))))] ?_
   refine Wc.cq (p:=(UInt8.toNat (List.getD l i 0):Int)%10=4) (fun c9=>?_) (fun c9=>?_)
   ·refine Wc.wn [(3,(.sl 1 0 0 1 none))] (hp [v2,.row 0 26 4 0 none [(.agg [(.int .i64 2),(.str []),(.int .i64 0),.nils])]]) [(([V.agg (j1 [V.int .i64 0,V.str [],V.int .i64 0,V.nils] (0:Nat) (V.cells (V.int .i64 2)))]≠[])∧((1≤(1099511627776:Nat))∧(1*56≤(1099511627776:Nat))))] (.cons (by simp) .nil) ?_
    refine Wc.w [(5,(.int .i64 ((i:Int)+2)))] [(i64r ((i:Int)+2))] (.cons (by omega) .nil) ?_
    exact q29 [] ⟨2,[],0,[]⟩ (Vw.le (Le.on [0,2,3,4,5] (by kernel_rfl))) rfl qi7 h2 (by omega) (by omega) (by rw [hstep,qm3 _ _ _ (by omega) (by omega)])
   refine Wc.seq (Wc.w0 [(78,(.bool (decide ((UInt8.toNat (List.getD l i 0):Int)%10=5))))] ?_)
   refine Wc.cq (p:=(UInt8.toNat (List.getD l i 0):Int)%10=5) (fun c10=>?_) (fun c10=>?_)
   ·refine Wc.enter (Wl.bs 0 5 [(80,.nils),(84,(.gptr 1 (List.map bV l) (Int.toNat ((i:Int)+1)*1)))] [(i64r ((i:Int)+1)),((0≤(i:Int)+1)∧((i:Int)+1<(List.length (List.map bV l):Int)))] (.cons (by omega) (.cons (by omega) .nil)) ?_)
    refine Wl.l 5 [(85,(.int .u8 ((UInt8.toNat (List.getD l (Int.toNat ((i:Int)+1)) 0):Int))))] (@Go.AM.ldB (hp [Obj.row 0 26 4 0 (some 1) [V.agg [V.int .i64 0,V.str [],V.int .i64 0,V.nils]]]) (l) (Int.toNat ((i:Int)+1)) (by omega)) ?_
    refine Wl.bn 6 13 [(3, (.sl 1 0 0 1 none))] (hp [v2, .row 0 26 4 0 none [(.agg [(.int .i64 (3 + (UInt8.toNat (List.getD l (Int.toNat ((i : Int) + 1)) 0) : Int) / 200)), (.str []), (.int .i64 0), .nils])]]) [(((0 : Int) ≤ (UInt8.toNat (List.getD l (Int.toNat ((i : Int) + 1)) 0) : Int)) ∧ (((0 : Int) < 200) ∧ (((0 : Int) ≤ (UInt8.toNat (List.getD l (Int.toNat ((i : Int) + 1)) 0) : Int) / 200) ∧ ((UInt8.toNat (List.getD l (Int.toNat ((i : Int) + 1)) 0) : Int) / 200 ≤ (255 : Int))))), (((-9223372036854775808 : Int) ≤ (UInt8.toNat (List.getD l (Int.toNat ((i : Int) + 1)) 0) : Int) / 200) ∧ ((UInt8.toNat (List.getD l (Int.toNat ((i : Int) + 1)) 0) : Int) / 200 ≤ (9223372036854775807 : Int))), (((-9223372036854775808 : Int) ≤ 3 + (UInt8.toNat (List.getD l (Int.toNat ((i : Int) + 1)) 0) : Int) / 200) ∧ ((3 : Int) + (UInt8.toNat (List.getD l (Int.toNat ((i : Int) + 1)) 0) : Int) / 200 ≤ (9223372036854775807 : Int))), (([V.agg (j1 [V.int .i64 0, V.str [], V.int .i64 0, V.nils] #[Field.mk "Kind" (3 : Nat) (0 : Nat) false "" "" (0 : Nat), Field.mk "Text" (9 : Nat) (1 : Nat) false "" "" (8 : Nat), Field.mk "N" (3 : Nat) (2 : Nat) false "" "" (24 : Nat), Field.mk "Kids" (24 : Nat) (3 : Nat) false "" "" (32 : Nat)][(0 : Nat)].offset (V.cells (V.int .i64 ((3 : Int) + (UInt8.toNat (List.getD l (Int.toNat ((i : Int) + 1)) 0) : Int) / 200))))] ≠ []) ∧ ((1 ≤ (1099511627776 : Nat)) ∧ (1 * 56 ≤ (1099511627776 : Nat))))] (.cons (by omega) (.cons (by omega) (.cons (by omega) (.cons (by simp) .nil)))) ?_
    refine Wl.dn 13 (Wc.w [(5,(.int .i64 ((i:Int)+2)))] [(i64r ((i:Int)+2))] (.cons (by omega) .nil) ?_)
    exact q29 [] ⟨3+((l.getD (i+1) 0).toNat/200:Nat),[],0,[]⟩ (Vw.le (Le.on [0,2,3,4,5] (by kernel_rfl))) rfl qi7 h2 (by omega) (by omega) (by rw [hstep,zf0 _ _ _ (by omega)])
   refine Wc.seq (Wc.w0 [(92,(.bool (decide ((UInt8.toNat (List.getD l i 0):Int)%10=6))))] ?_)
   refine Wc.cq (p:=(UInt8.toNat (List.getD l i 0):Int)%10=6) (fun c11=>?_) (fun c11=>?_)
   ·refine Wc.seq (Wc.w [] [(i64r (0:Int))] (.cons (by omega) .nil) ?_)
    let v3:V:=(.int .i64 ((UInt8.toNat (List.getD l (Int.toNat ((i:Int)+1)) 0):Int)%5-2+5*((UInt8.toNat (List.getD l (Int.toNat ((i:Int)+1)) 0):Int)%2)))
    let v4:V:=(.agg [(.int .i64 7),(.str []),(.int .i64 0),.nils])
    refine Wc.drawnP 22 [v3,v4] (encD (Dc.mk 5 [] ((UInt8.toNat (List.getD l (Int.toNat ((i:Int)+1)) 0):Int)%5-2+5*((UInt8.toNat (List.getD l (Int.toNat ((i:Int)+1)) 0):Int)%2)) [Dc.mk 7 [] 0 []])) (@Go.AM.cInN ((UInt8.toNat (List.getD l (Int.toNat ((i:Int)+1)) 0):Int)%5-2+5*((UInt8.toNat (List.getD l (Int.toNat ((i:Int)+1)) 0):Int)%2))) (by kernel_rfl) ?_
    let v5:V:=(.gptr 1 (List.map bV l) (Int.toNat ((i:Int)+1)*1))
    refine Dl.bs 0 5 [(100,.nils),(104,v5)] [(i64r ((i:Int)+1)),((0≤(i:Int)+1)∧((i:Int)+1<(List.length (List.map bV l):Int)))] (.cons (by omega) (.cons (by omega) .nil)) ?_
    let v6:V:=(.int .u8 ((UInt8.toNat (List.getD l (Int.toNat ((i:Int)+1)) 0):Int)))
    let v7:Heap:=(hp [Obj.row 0 26 4 0 (some 1) [V.agg [V.int .i64 0,V.str [],V.int .i64 0,V.nils]]])
    refine Dl.l 5 [(105,v6)] (@Go.AM.ldB v7 (l) (Int.toNat ((i:Int)+1)) (by omega)) ?_
    refine Dl.bs 6 13 [(108,(.int .i64 ((UInt8.toNat (List.getD l (Int.toNat ((i:Int)+1)) 0):Int)%5-2))),(112,v5)] [((0≤(UInt8.toNat (List.getD l (Int.toNat ((i:Int)+1)) 0):Int))∧((0:Int)<5)),(i64r ((UInt8.toNat (List.getD l (Int.toNat ((i:Int)+1)) 0):Int)%5)),(i64r ((UInt8.toNat (List.getD l (Int.toNat ((i:Int)+1)) 0):Int)%5-2)),(i64r ((i:Int)+1)),((0≤(i:Int)+1)∧((i:Int)+1<(List.length (List.map bV l):Int)))] (.cons (by omega) (.cons (by omega) (.cons (by omega) (.cons (by omega) (.cons (by omega) .nil))))) ?_
    refine Dl.l 13 [(113,v6)] (@Go.AM.ldB v7 (l) (Int.toNat ((i:Int)+1)) (by omega)) ?_
    refine Dl.bs 14 20 [(117,v3),(119,v4)] [((0≤(UInt8.toNat (List.getD l (Int.toNat ((i:Int)+1)) 0):Int))∧((0:Int)<2)),(i64r ((UInt8.toNat (List.getD l (Int.toNat ((i:Int)+1)) 0):Int)%2)),(i64r ((5:Int)*((UInt8.toNat (List.getD l (Int.toNat ((i:Int)+1)) 0):Int)%2))),(i64r ((UInt8.toNat (List.getD l (Int.toNat ((i:Int)+1)) 0):Int)%5-2+5*((UInt8.toNat (List.getD l (Int.toNat ((i:Int)+1)) 0):Int)%2)))] (.cons (by omega) (.cons (by omega) (.cons (by omega) (.cons (by omega) .nil)))) ?_
    let v8:V:=(.int .i64 ((Dc.mk 5 [] ((UInt8.toNat (List.getD l (Int.toNat ((i:Int)+1)) 0):Int)%5-2+5*((UInt8.toNat (List.getD l (Int.toNat ((i:Int)+1)) 0):Int)%2)) [Dc.mk 7 [] 0 []]).n))
    let v9:V:=(.osl 4 (esD (Dc.mk 5 [] ((UInt8.toNat (List.getD l (Int.toNat ((i:Int)+1)) 0):Int)%5-2+5*((UInt8.toNat (List.getD l (Int.toNat ((i:Int)+1)) 0):Int)%2)) [Dc.mk 7 [] 0 []])))
    let v10:V:=(.agg [(.int .i64 5),(.str []),v8,v9])
    refine Dl.c 20 [(120,v10)] q97 (by rfl) ?_
    refine Dl.bn 21 24 [(3,(.sl 1 0 0 1 none))] (hp [v2,.row 0 26 4 0 none [v10]]) [(([V.agg [V.int .i64 5,V.str [],V.int .i64 (Dc.mk 5 [] ((UInt8.toNat (List.getD l (Int.toNat ((i:Int)+1)) 0):Int)%5-2+5*((UInt8.toNat (List.getD l (Int.toNat ((i:Int)+1)) 0):Int)%2)) [Dc.mk 7 [] (0:Int) []]).n,V.osl 4 (esD (Dc.mk 5 [] ((UInt8.toNat (List.getD l (Int.toNat ((i:Int)+1)) 0):Int)%5-2+5*((UInt8.toNat (List.getD l (Int.toNat ((i:Int)+1)) 0):Int)%2)) [Dc.mk 7 [] (0:Int) []]))]]≠[])∧((1≤(1099511627776:Nat))∧(1*56≤(1099511627776:Nat))))] (.cons (by simp) .nil) ?_
    refine Dl.done 24 rfl ?_
    refine Wc.w [(5,(.int .i64 ((i:Int)+2)))] [(i64r ((i:Int)+2))] (.cons (by omega) .nil) ?_
    exact q29 [] ⟨5,[],(((l.getD (i+1) 0).toNat%5:Nat):Int)-2+5*(((l.getD (i+1) 0).toNat%2:Nat):Int),[⟨7,[],0,[]⟩]⟩ (Vw.le (Le.on [0,2,3,4,5] (by kernel_rfl))) rfl (.refl rfl) h2 (by omega) (by omega) (by rw [hstep,x69 _ _ _ (by omega)];simp)
   refine Wc.seq (Wc.seq (Wc.w0 [(123,(.bool (decide ((UInt8.toNat (List.getD l i 0):Int)%10=7))))] ?_))
   refine Wc.cq (p:=(UInt8.toNat (List.getD l i 0):Int)%10=7) (fun c12=>?_) (fun c12=>?_)
   ·refine Wc.skip ?_
    refine Wc.cq (p:=(UInt8.toNat (List.getD l i 0):Int)%10=7) (fun c13=>?_) (fun c13=>absurd (show (UInt8.toNat (List.getD l i 0):Int)%10=7 from c12) c13)
    refine Wc.seq (Wc.w [] [(i64r (0:Int))] (.cons (by omega) .nil) ?_)
    refine Wc.enter (Wl.b0 0 3 [(132,.nils),(134,(.agg [(.int .i64 7),(.str []),(.int .i64 0),.nils]))] ?_)
    let v11:V:=(.agg [(.int .i64 7),(.str []),(.int .i64 0),(.osl 4 [])])
    let v12:V:=(.osl 4 [v11])
    let v13:V:=(.agg [(.int .i64 6),(.str []),(.int .i64 0),v12])
    refine Wl.c 3 [(135,v13)] (@Go.AM.cFitN) ?_
    refine Wl.bn 4 7 [(3,(.sl 1 0 0 1 none))] (hp [v2,.row 0 26 4 0 none [v13]]) [(([V.agg [V.int .i64 6,V.str [],V.int .i64 0,V.osl 4 [V.agg [V.int .i64 7,V.str [],V.int .i64 0,V.osl 4 []]]]]≠[])∧((1≤(1099511627776:Nat))∧(1*56≤(1099511627776:Nat))))] (.cons (by simp) .nil) ?_
    refine Wl.dn 7 (Wc.w [(5,(.int .i64 ((i:Int)+2)))] [(i64r ((i:Int)+2))] (.cons (by omega) .nil) ?_)
    exact q29 [] ⟨6,[],0,[⟨7,[],0,[]⟩]⟩ (Vw.le (Le.on [0,2,3,4,5] (by kernel_rfl))) rfl (by rw [zw6];exact .refl rfl) h2 (by omega) (by omega) (by rw [hstep,z07 _ _ _ (by omega) (by omega)];simp)
   refine Wc.w0 [(123,(.bool (decide ((UInt8.toNat (List.getD l i 0):Int)%10=8))))] ?_
   refine Wc.cq (p:=(UInt8.toNat (List.getD l i 0):Int)%10=8) (fun c14=>?_) (fun c14=>?_)
   ·refine Wc.seq (Wc.w [] [(i64r (0:Int))] (.cons (by omega) .nil) ?_)
    refine Wc.enter (Wl.b0 0 3 [(132,.nils),(134,(.agg [(.int .i64 7),(.str []),(.int .i64 0),.nils]))] ?_)
    let v14:V:=(.agg [(.int .i64 7),(.str []),(.int .i64 0),(.osl 4 [])])
    let v15:V:=(.osl 4 [v14])
    let v16:V:=(.agg [(.int .i64 6),(.str []),(.int .i64 0),v15])
    refine Wl.c 3 [(135,v16)] (@Go.AM.cFitN) ?_
    refine Wl.bn 4 7 [(3,(.sl 1 0 0 1 none))] (hp [v2,.row 0 26 4 0 none [v16]]) [(([V.agg [V.int .i64 6,V.str [],V.int .i64 0,V.osl 4 [V.agg [V.int .i64 7,V.str [],V.int .i64 0,V.osl 4 []]]]]≠[])∧((1≤(1099511627776:Nat))∧(1*56≤(1099511627776:Nat))))] (.cons (by simp) .nil) ?_
    refine Wl.dn 7 (Wc.w [(5,(.int .i64 ((i:Int)+2)))] [(i64r ((i:Int)+2))] (.cons (by omega) .nil) ?_)
    exact q29 [] ⟨6,[],0,[⟨7,[],0,[]⟩]⟩ (Vw.le (Le.on [0,2,3,4,5] (by kernel_rfl))) rfl (by rw [zw6];exact .refl rfl) h2 (by omega) (by omega) (by rw [hstep,z07 _ _ _ (by omega) (by omega)];simp)
   refine Wc.seq (Wc.w [] [(i64r (0:Int))] (.cons (by omega) .nil) ?_)
   refine Wc.enter (Wl.b0 0 2 [(49,.nils),(50,.nils)] ?_)
   let v17:V:=(.agg [(.int .i64 0),(.str []),(.int .i64 0),(.osl 4 [])])
   refine Wl.c 2 [(51,v17)] (@Go.AM.cRowN) ?_
   refine Wl.bn 3 6 [(3,(.sl 1 0 0 1 none))] (hp [v2,.row 0 26 4 0 none [v17]]) [(([V.agg [V.int .i64 0,V.str [],V.int .i64 0,V.osl 4 []]]≠[])∧((1≤(1099511627776:Nat))∧(1*56≤(1099511627776:Nat))))] (.cons (by simp) .nil) ?_
   refine Wl.dn 6 (Wc.w [(5,(.int .i64 ((i:Int)+2)))] [(i64r ((i:Int)+2))] (.cons (by omega) .nil) ?_)
   exact q29 [] (rowD []) (Vw.le (Le.on [0,2,3,4,5] (by kernel_rfl))) rfl (by rw [xu5];exact .refl rfl) h2 (by omega) (by omega) (by rw [hstep,x00 _ _ _ (by omega)];simp)
  refine Wc.exit (z8.here (Wc.seq ?_))
  have hdn:docN l=i/2:=by omega
  have hr:q82 l (docN l)=[]:=by rw [hdn,← hf]
  refine Wc.wn0 [(17,(.bool (decide ((i:Int)+1<(List.length (List.map bV l):Int)∧(i:Int)<80))))] (hp [.row 0 26 4 0 (some 1) [(.agg [(.int .i64 7),(.str []),(.int .i64 0),.nils])]]) ?_
  refine Wc.ret ?_
  refine retX.mk (.agg [(.int .i64 7),(.str []),(.int .i64 0),.nils]) ⟨rfl,rfl⟩ (by kernel_rfl) ?_
  exact ⟨.agg [.int .i64 7,.str [],.int .i64 0,.nils],by kernel_rfl,by unfold qs0;rw [hr];exact zl8⟩
 simp only [x61 hg,x59 hg]
 refine Wc.seq (Wc.seq (Wc.enter (Wl.bn 0 6 [(0,(.osl 1 (List.map bV l))),(2,(.ptr 0 0 0)),(3,(.sl 1 0 0 (List.length gs) none)),(4,(.gsl 1 (List.map V.str ts) (some 7))),(5,(.int .i64 (i:Int))),(14,(.bool (decide ((i:Int)+1<(List.length (List.map bV l):Int)))))] (hp [.row 0 26 4 0 (some 1) [(.agg [(.int .i64 0),(.str []),(.int .i64 0),.nils])],.row 0 26 4 0 none (List.map encD gs)]) [(i64r ((i:Int)+1))] (.cons (by omega) .nil) ?_)))
 let v18:V:=(.sl 1 0 0 (List.length gs) none)
 let v19:V:=(.gsl 1 (List.map V.str ts) (some 7))
 let v20:V:=(.agg [(.int .i64 0),(.str []),(.int .i64 0),.nils])
 let v21:Obj:=.row 0 26 4 0 (some 1) [v20]
 let v22:Obj:=.row 0 26 4 0 none (List.map encD gs)
 let v23:Heap:=(hp [v21,v22])
 refine Wl.join (b:=(base 9 140)) (p:=(i:Int)+1<(List.length (List.map bV l):Int)) [(0,(.osl 1 (List.map bV l))),(2,(.ptr 0 0 0)),(3,v18),(4,v19),(5,(.int .i64 (i:Int))),(17,(.bool (decide (((i:Int)+1<(List.length (List.map bV l):Int))∧((i:Int)<80)))))] v23 (fun c1=>?_) (fun c1=>?_) ?_
 ·refine Wl.k 14 (.bool (decide ((i:Int)+1<(List.length (List.map bV l):Int)))) (.bool true) (by have e:=decide_eq_true c1;simp only [e] <;> rfl) ?_
  refine Wl.b0 6 9 [(17,(.bool (decide ((i:Int)<80))))] ?_
  refine Wl.dn 9 ?_
  exact ⟨Le.on' [0,2,3,4,5,17] [(0,(.osl 1 (List.map bV l))),(2,(.ptr 0 0 0)),(3,(.sl 1 0 0 (List.length gs) none)),(4,(.gsl 1 (List.map V.str ts) (some 7))),(5,(.int .i64 ((↑i:Int)))),(17,(.bool (decide ((↑i:Int)<80))))] (by kernel_rfl) (by rw [qy8 c1] <;> rfl),by kernel_rfl⟩
 ·refine Wl.k 14 (.bool (decide ((i:Int)+1<(List.length (List.map bV l):Int)))) (.bool false) (by have e:=decide_eq_false c1;simp only [e] <;> rfl) ?_
  refine Wl.b0 6 9 [(17,(.bool false))] ?_
  refine Wl.dn 9 ?_
  exact ⟨Le.on' [0,2,3,4,5,17] [(0,(.osl 1 (List.map bV l))),(2,(.ptr 0 0 0)),(3,(.sl 1 0 0 (List.length gs) none)),(4,(.gsl 1 (List.map V.str ts) (some 7))),(5,(.int .i64 ((↑i:Int)))),(17,(.bool false))] (by kernel_rfl) (by rw [qo2 c1] <;> rfl),by kernel_rfl⟩
 refine Wc.cq (p:=(i:Int)+1<(List.length (List.map bV l):Int)∧(i:Int)<80) (fun c2=>?_) (fun c2=>?_)
 ·refine Wc.skip (Wc.seq (Wc.block (Wc.seq (Wc.enter (Wl.bs 0 4 [(17,(.bool (decide ((i:Int)+1<(List.length (List.map bV l):Int)∧(i:Int)<80)))),(23,(.gptr 1 (List.map bV l) (Int.toNat ((i:Int)+1)*1)))] [(i64r ((i:Int)+1)),((0≤(i:Int)+1)∧((i:Int)+1<(List.length (List.map bV l):Int)))] (.cons (by omega) (.cons (by omega) .nil)) ?_)))))
  refine Wl.l 4 [(24,(.int .u8 ((UInt8.toNat (List.getD l (Int.toNat ((i:Int)+1)) 0):Int))))] (@Go.AM.ldB (hp [Obj.row 0 26 4 0 (some 1) [V.agg [V.int .i64 0,V.str [],V.int .i64 0,V.nils]],Obj.row 0 26 4 0 none (List.map encD gs)]) (l) (Int.toNat ((i:Int)+1)) (by omega)) ?_
  refine Wl.bs 5 11 [(6,(.int .i64 (min ((UInt8.toNat (List.getD l (Int.toNat ((i:Int)+1)) 0):Int)%4) (List.length gs:Int))))] [((0≤(UInt8.toNat (List.getD l (Int.toNat ((i:Int)+1)) 0):Int))∧((0:Int)<4)),(i64r ((UInt8.toNat (List.getD l (Int.toNat ((i:Int)+1)) 0):Int)%4))] (.cons (by omega) (.cons (by omega) .nil)) ?_
  refine Wl.dn 11 (Wc.seq (Wc.w0 [(7,.nils)] ?_))
  refine Wc.seq ?_
  obtain ⟨k,hk⟩:∃ k:Nat,k=min ((l.getD (i+1) 0).toNat%4) gs.length:=⟨_,rfl⟩
  have hkE:min ((↑(UInt8.toNat (List.getD l (Int.toNat ((↑i:Int)+1)) 0)):Int)%4) (↑(List.length gs):Int)=(k:Int):=by rw [et];omega
  simp only [hkE]
  refine Wc.mid ((base 9 140).on [(0,.osl 1 (l.map bV)),(2,.ptr 0 0 0),(3,.sl 1 0 0 gs.length none),(4,.gsl 1 (ts.map V.str) (some 7)),(5,.int .i64 (i:Int)),(6,.int .i64 (k:Int)),(7,.osl 4 ((gs.drop (gs.length-k)).map encD))]) (hp [.row 0 26 4 0 (some 1) [.agg [.int .i64 0,.str [],.int .i64 0,.nils]],.row 0 26 4 0 none (gs.map encD)]) ?_ ?_
  ·rcases Nat.eq_zero_or_pos k with h0 | h0
   ·subst h0
    refine Wc.enter ?_
    let v24:V:=(.sl 1 0 0 (List.length gs) none)
    let v25:V:=(.gsl 1 (List.map V.str ts) (some 7))
    let v26:V:=(.agg [(.int .i64 0),(.str []),(.int .i64 0),.nils])
    let v27:Obj:=.row 0 26 4 0 (some 1) [v26]
    let v28:Obj:=.row 0 26 4 0 none (List.map encD gs)
    let v29:Heap:=(hp [v27,v28])
    refine Wl.bn 0 7 [(0,(.osl 1 (List.map bV l))),(2,(.ptr 0 0 0)),(3,v24),(4,v25),(5,(.int .i64 (i:Int))),(6,(.int .i64 0)),(7,.nils),(17,(.bool (decide ((i:Int)+1<(List.length (List.map bV l):Int)∧(i:Int)<80)))),(30,.nils),(36,(.sl 1 0 (0+Int.toNat ((List.length gs:Int)-0)) (List.length gs-Int.toNat ((List.length gs:Int)-0)) none))] v29 [(i64r ((List.length gs:Int)-0)),((0≤(List.length gs:Int)-0)∧((List.length gs:Int)-0≤(List.length gs:Int)))] (.cons (by omega) (.cons (by omega) .nil)) ?_
    have eo:Int.toNat ((↑(List.length gs):Int)-(0:Int))=gs.length:=by omega
    have ha:AM.append Tryd.prog 24 (hp [.row 0 26 4 0 (some 1) [(.agg [(.int .i64 0),(.str []),(.int .i64 0),.nils])],.row 0 26 4 0 none (List.map encD gs)]) .nils (.sl 1 0 (0+Int.toNat ((↑(List.length gs):Int)-0)) (List.length gs-Int.toNat ((↑(List.length gs):Int)-0)) none)=.val .nils (hp [.row 0 26 4 0 (some 1) [(.agg [(.int .i64 0),(.str []),(.int .i64 0),.nils])],.row 0 26 4 0 none (List.map encD gs)]) :=
     x42 (e:=26) (sz:=4) (ty:=26) (pub:=0) (cap:=none) (es:=List.map encD gs) (by kernel_rfl) (by kernel_rfl) (by kernel_rfl) (by kernel_rfl) (by omega) (by rw [List.length_map];omega)
    refine Wl.append (b:=base 9 140) (t:=24) (x:=.nils) (d:=some 37) 7 [0,2,3,4,5,6,37] [(0,(.osl 1 (List.map bV l))),(2,(.ptr 0 0 0)),(3,v24),(4,v25),(5,(.int .i64 (i:Int))),(6,(.int .i64 0)),(37,.nils)] (by kernel_rfl) ha (by kernel_rfl) ?_
    refine Wl.view (Vw.slot (b:=base 9 140) (L':=[(0,(.osl 1 (List.map bV l))),(2,(.ptr 0 0 0)),(3,v24),(4,v25),(5,(.int .i64 (i:Int))),(6,(.int .i64 0)),(37,.osl 4 (List.map encD (gs.drop (gs.length-0))))]) 37 .nils (.osl 4 (List.map encD (gs.drop (gs.length-0)))) [0,2,3,4,5,6,37] (by kernel_rfl) (by rw [Nat.sub_zero,List.drop_length];exact .nils 4) (by simp [lost]) (by kernel_rfl) (by kernel_rfl)) ?_
    refine Wl.bn0 8 9 [(0,(.osl 1 (List.map bV l))),(2,(.ptr 0 0 0)),(3,v24),(4,v25),(5,(.int .i64 (i:Int))),(6,(.int .i64 0)),(7,(.osl 4 (List.map encD (List.drop (List.length gs-0) gs))))] v29 ?_
    refine Wl.dn 9 ?_
    exact Vw.gk [(0,false),(1,true)] [(∀ (e:V),e∈List.map encD gs→x2 (x4 3) (V.cells e)=true),(0=0),(0=0)] (.cons (by exact x3 (fun _=>rfl) _) (.cons (by omega) (.cons (by omega) .nil)))
   refine Wc.enter ?_
   let v30:V:=(.sl 1 0 0 (List.length gs) none)
   let v31:V:=(.gsl 1 (List.map V.str ts) (some 7))
   let v32:V:=(.agg [(.int .i64 0),(.str []),(.int .i64 0),.nils])
   let v33:Obj:=.row 0 26 4 0 (some 1) [v32]
   let v34:Obj:=.row 0 26 4 0 none (List.map encD gs)
   refine Wl.bn 0 7 [(0,(.osl 1 (List.map bV l))),(2,(.ptr 0 0 0)),(3,v30),(4,v31),(5,(.int .i64 (i:Int))),(6,(.int .i64 (k:Int))),(7,.nils),(17,(.bool (decide ((i:Int)+1<(List.length (List.map bV l):Int)∧(i:Int)<80)))),(30,.nils),(36,(.sl 1 0 (0+Int.toNat ((List.length gs:Int)-(k:Int))) (List.length gs-Int.toNat ((List.length gs:Int)-(k:Int))) none))] (hp [v33,v34]) [(i64r ((List.length gs:Int)-(k:Int))),((0≤(List.length gs:Int)-(k:Int))∧((List.length gs:Int)-(k:Int)≤(List.length gs:Int)))] (.cons (by omega) (.cons (by omega) .nil)) ?_
   have eo:Int.toNat ((↑(List.length gs):Int)-(↑k:Int))=gs.length-k:=by omega
   have hb:Program.bytesOf Tryd.prog 26=56:=by kernel_rfl
   have ha:AM.append Tryd.prog 24 (hp [.row 0 26 4 0 (some 1) [(.agg [(.int .i64 0),(.str []),(.int .i64 0),.nils])],.row 0 26 4 0 none (List.map encD gs)]) .nils (.sl 1 0 (0+Int.toNat ((↑(List.length gs):Int)-(↑k:Int))) (List.length gs-Int.toNat ((↑(List.length gs):Int)-(↑k:Int))) none)=.val (.sl 2 0 0 k none) (hp [.row 0 26 4 0 (some 1) [(.agg [(.int .i64 0),(.str []),(.int .i64 0),.nils])],.row 0 26 4 0 none (List.map encD gs),.row 0 26 4 0 none (List.map encD (gs.drop (gs.length-k)))]) :=
    x20 (e:=26) (sz:=4) (ty:=26) (pub:=0) (cap:=none) (es:=List.map encD gs) (by kernel_rfl) (by kernel_rfl) (by kernel_rfl) (by kernel_rfl) (by kernel_rfl) (by omega) h0 (by rw [List.length_map];omega) (by rw [eo,Nat.zero_add,← List.map_drop];exact List.take_of_length_le (by rw [List.length_map,List.length_drop];omega)) (by omega) (by rw [hb];omega)
   refine Wl.append (b:=base 9 140) (t:=24) (x:=.nils) (d:=some 37) 7 [0,2,3,4,5,6,37] [(0,(.osl 1 (List.map bV l))),(2,(.ptr 0 0 0)),(3,v30),(4,v31),(5,(.int .i64 (i:Int))),(6,(.int .i64 (k:Int))),(37,.sl 2 0 0 k none)] (by kernel_rfl) ha (by kernel_rfl) ?_
   have hkl:k=(List.map encD (gs.drop (gs.length-k))).length:=by rw [List.length_map,List.length_drop];omega
   let v35:V:=(.gsl 4 (List.map encD (gs.drop (gs.length-k))) none)
   refine Wl.view (Vw.pub (b:=base 9 140) 37 (.sl 2 0 0 k none) v35 [0,2,3,4,5,6,37] [(0,(.osl 1 (List.map bV l))),(2,(.ptr 0 0 0)),(3,v30),(4,v31),(5,(.int .i64 (i:Int))),(6,(.int .i64 (k:Int))),(37,.gsl 4 (List.map encD (gs.drop (gs.length-k))) none)] (by kernel_rfl) (by kernel_rfl) (z99 (h:=hp [.row 0 26 4 0 (some 1) [v32],.row 0 26 4 0 none (List.map encD gs),.row 0 26 4 0 none (List.map encD (gs.drop (gs.length-k)))]) (ver:=0) (ty:=26) (sz:=4) (pb:=0) (cap:=none) (c:=none) (by kernel_rfl) hkl (zh5 (fun _ _=>rfl) _)) (by simp [lost]) (by kernel_rfl)) ?_
   refine Wl.view (Vw.slot (b:=base 9 140) (L':=[(0,(.osl 1 (List.map bV l))),(2,(.ptr 0 0 0)),(3,v30),(4,v31),(5,(.int .i64 (i:Int))),(6,(.int .i64 (k:Int))),(37,.osl 4 (List.map encD (gs.drop (gs.length-k))))]) 37 v35 (.osl 4 (List.map encD (gs.drop (gs.length-k)))) [0,2,3,4,5,6,37] (by kernel_rfl) .gsl (by simp [lost]) (by kernel_rfl) (by kernel_rfl)) ?_
   refine Wl.bn0 8 9 [(0,(.osl 1 (List.map bV l))),(2,(.ptr 0 0 0)),(3,v30),(4,v31),(5,(.int .i64 (i:Int))),(6,(.int .i64 (k:Int))),(7,(.osl 4 (List.map encD (List.drop (List.length gs-k) gs))))] (hp [v33,v34,.row 0 26 4 (Nat.max 0 (Nat.add 0 k)) none (List.map encD (List.drop (List.length gs-k) gs))]) ?_
   refine Wl.dn 9 ?_
   exact Vw.gk [(0,false),(1,true)] [(∀ (e:V),e∈List.map encD gs→x2 (x4 3) (V.cells e)=true),(0=0),(0=0)] (.cons (by exact x3 (fun _=>rfl) _) (.cons (by omega) (.cons (by omega) .nil)))
  refine Wc.seq (Wc.enter (Wl.bn 0 3 [(0,(.osl 1 (List.map bV l))),(2,(.ptr 0 0 0)),(3,(.sl 1 0 0 (List.length gs) none)),(4,(.gsl 1 (List.map V.str ts) (some 7))),(5,(.int .i64 (i:Int))),(6,(.int .i64 (k:Int))),(7,(.osl 4 (List.map encD (List.drop (List.length gs-k) gs)))),(40,(.gptr 1 (List.map bV l) (i*1)))] (hp [.row 0 26 4 0 (some 1) [(.agg [(.int .i64 0),(.str []),(.int .i64 0),.nils])],.row 0 26 4 0 none (List.map encD gs)]) [((0≤(i:Int))∧((i:Int)<(List.length (List.map bV l):Int)))] (.cons (by omega) .nil) ?_))
  refine Wl.l 3 [(41,(.int .u8 ((UInt8.toNat (List.getD l i 0):Int))))] (@Go.AM.ldB (hp [Obj.row 0 26 4 0 (some 1) [V.agg [V.int .i64 0,V.str [],V.int .i64 0,V.nils]],Obj.row 0 26 4 0 none (List.map encD gs)]) (l) (i) (by omega)) ?_
  refine Wl.bs 4 5 [(42,(.int .u8 ((UInt8.toNat (List.getD l i 0):Int)%10)))] [((0≤(UInt8.toNat (List.getD l i 0):Int))∧((0:Int)<10))] (.cons (by omega) .nil) ?_
  refine Wl.dn 5 (Wc.block (Wc.seq (Wc.seq (Wc.w0 [(54,(.bool (decide ((UInt8.toNat (List.getD l i 0):Int)%10=0))))] ?_))))
  refine Wc.cq (p:=(UInt8.toNat (List.getD l i 0):Int)%10=0) (fun c1=>?_) (fun c1=>?_)
  ·refine Wc.skip ?_
   refine Wc.cq (p:=(UInt8.toNat (List.getD l i 0):Int)%10=0) (fun c3=>?_) (fun c3=>absurd (show (UInt8.toNat (List.getD l i 0):Int)%10=0 from c1) c3)
   refine Wc.enter (Wl.bs 0 6 [(58,(.sl 1 0 0 (List.length gs) none)),(59,(.gsl 1 (List.map V.str ts) (some 7))),(63,(.gptr 1 (List.map bV l) (Int.toNat ((i:Int)+1)*1)))] [(i64r ((i:Int)+1)),((0≤(i:Int)+1)∧((i:Int)+1<(List.length (List.map bV l):Int)))] (.cons (by omega) (.cons (by omega) .nil)) ?_)
   refine Wl.l 6 [(64,(.int .u8 ((UInt8.toNat (List.getD l (Int.toNat ((i:Int)+1)) 0):Int))))] (@Go.AM.ldB (hp [Obj.row 0 26 4 0 (some 1) [V.agg [V.int .i64 0,V.str [],V.int .i64 0,V.nils]],Obj.row 0 26 4 0 none (List.map encD gs)]) (l) (Int.toNat ((i:Int)+1)) (by omega)) ?_
   refine Wl.bs 7 9 [(66,(.gptr 1 (List.map V.str ts) (Int.toNat ((UInt8.toNat (List.getD l (Int.toNat ((i:Int)+1)) 0):Int)%7)*1)))] [(((0:Int)≤(UInt8.toNat (List.getD l (Int.toNat ((i:Int)+1)) 0):Int))∧((0:Int)<7)),(((0:Int)≤(UInt8.toNat (List.getD l (Int.toNat ((i:Int)+1)) 0):Int)%7)∧((UInt8.toNat (List.getD l (Int.toNat ((i:Int)+1)) 0):Int)%7<(List.length (List.map V.str ts):Int)))] (.cons (by omega) (.cons (by (simp;omega)) .nil)) ?_
   refine Wl.l 9 [(67,(.str (List.getD ts (Int.toNat ((UInt8.toNat (List.getD l (Int.toNat ((i:Int)+1)) 0):Int)%7)) [])))] (@Go.AM.ldT (hp [Obj.row 0 26 4 0 (some 1) [V.agg [V.int .i64 0,V.str [],V.int .i64 0,V.nils]],Obj.row 0 26 4 0 none (List.map encD gs)]) (ts) (Int.toNat ((UInt8.toNat (List.getD l (Int.toNat ((i:Int)+1)) 0):Int)%7)) (by omega)) ?_
   refine Wl.c 10 [(68,(.agg [(.int .i64 1),(.str ((Dc.mk 1 (List.getD ts (Int.toNat ((UInt8.toNat (List.getD l (Int.toNat ((i:Int)+1)) 0):Int)%7)) []) 0 []).text)),(.int .i64 0),(.osl 4 (esD (Dc.mk 1 (List.getD ts (Int.toNat ((UInt8.toNat (List.getD l (Int.toNat ((i:Int)+1)) 0):Int)%7)) []) 0 [])))]))] (@Go.AM.cSay (List.getD ts (Int.toNat ((UInt8.toNat (List.getD l (Int.toNat ((i:Int)+1)) 0):Int)%7)) []) hne) ?_
   refine Wl.bn 11 14 [(3,(.sl 1 1 0 (List.length gs+List.length [V.agg [V.int .i64 1,V.str (Dc.mk 1 (List.getD ts (Int.toNat ((UInt8.toNat (List.getD l (Int.toNat ((i:Int)+1)) 0):Int)%7)) []) 0 []).text,V.int .i64 0,V.osl 4 (esD (Dc.mk 1 (List.getD ts (Int.toNat ((UInt8.toNat (List.getD l (Int.toNat ((i:Int)+1)) 0):Int)%7)) []) 0 []))]]) none))] (hp [.row 0 26 4 0 (some 1) [(.agg [(.int .i64 0),(.str []),(.int .i64 0),.nils])],.row 1 26 4 0 none (List.map encD gs++[V.agg [V.int .i64 1,V.str (Dc.mk 1 (List.getD ts (Int.toNat ((UInt8.toNat (List.getD l (Int.toNat ((i:Int)+1)) 0):Int)%7)) []) 0 []).text,V.int .i64 0,V.osl 4 (esD (Dc.mk 1 (List.getD ts (Int.toNat ((UInt8.toNat (List.getD l (Int.toNat ((i:Int)+1)) 0):Int)%7)) []) 0 []))]])]) [(((0:Nat)=0)∧(([V.agg [V.int .i64 1,V.str (Dc.mk 1 (List.getD ts (Int.toNat ((UInt8.toNat (List.getD l (Int.toNat ((i:Int)+1)) 0):Int)%7)) []) (0:Int) []).text,V.int .i64 0,V.osl 4 (esD (Dc.mk 1 (List.getD ts (Int.toNat ((UInt8.toNat (List.getD l (Int.toNat ((i:Int)+1)) 0):Int)%7)) []) (0:Int) []))]]≠[])∧((List.length gs=List.length (List.map encD gs))∧(((0:Nat)≤List.length gs)∧((List.length gs+List.length [V.agg [V.int .i64 1,V.str (Dc.mk 1 (List.getD ts (Int.toNat ((UInt8.toNat (List.getD l (Int.toNat ((i:Int)+1)) 0):Int)%7)) []) (0:Int) []).text,V.int .i64 0,V.osl 4 (esD (Dc.mk 1 (List.getD ts (Int.toNat ((UInt8.toNat (List.getD l (Int.toNat ((i:Int)+1)) 0):Int)%7)) []) (0:Int) []))]]≤(1099511627776:Nat))∧((List.length gs+List.length [V.agg [V.int .i64 1,V.str (Dc.mk 1 (List.getD ts (Int.toNat ((UInt8.toNat (List.getD l (Int.toNat ((i:Int)+1)) 0):Int)%7)) []) (0:Int) []).text,V.int .i64 0,V.osl 4 (esD (Dc.mk 1 (List.getD ts (Int.toNat ((UInt8.toNat (List.getD l (Int.toNat ((i:Int)+1)) 0):Int)%7)) []) (0:Int) []))]])*56≤(1099511627776:Nat)))))))] (.cons (by exact ⟨rfl,by simp,by simp,by omega,by simp only [List.length_cons,List.length_nil];omega,by simp only [List.length_cons,List.length_nil];omega⟩) .nil) ?_
   refine Wl.dn 14 (Wc.w [(5,(.int .i64 ((i:Int)+2)))] [(i64r ((i:Int)+2))] (.cons (by omega) .nil) ?_)
   subst hts
   refine q29 gs ⟨1,q09.getD ((l.getD (i+1) 0).toNat%7) [],0,[]⟩ (x:=encD ⟨1,q09.getD ((l.getD (i+1) 0).toNat%7) [],0,[]⟩) ?_ rfl (.refl rfl) h2 (by omega) (by omega) (by rw [hstep,qi2 _ _ _ (by omega)])
   exact Vw.gk [(0,false),(1,true)] [(∀ (e:V),e∈List.map encD gs++[V.agg [V.int .i64 1,V.str (Dc.mk 1 (List.getD q09 (Int.toNat ((UInt8.toNat (List.getD l (Int.toNat ((i:Int)+1)) 0):Int)%7)) []) (0:Int) []).text,V.int .i64 0,V.osl 4 (esD (Dc.mk 1 (List.getD q09 (Int.toNat ((UInt8.toNat (List.getD l (Int.toNat ((i:Int)+1)) 0):Int)%7)) []) (0:Int) []))]]→x2 (x4 3) (V.cells e)=true),(0=0),(1=1)] (.cons (by exact w6 (x3 (fun _=>rfl) _) (q63 rfl)) (.cons (by omega) (.cons (by omega) .nil)))
  refine Wc.seq (Wc.w0 [(54,(.bool (decide ((UInt8.toNat (List.getD l i 0):Int)%10=1))))] ?_)
  refine Wc.cq (p:=(UInt8.toNat (List.getD l i 0):Int)%10=1) (fun c4=>?_) (fun c4=>?_)
  ·refine Wc.skip ?_
   refine Wc.cq (p:=(UInt8.toNat (List.getD l i 0):Int)%10=1) (fun c5=>?_) (fun c5=>absurd (show (UInt8.toNat (List.getD l i 0):Int)%10=1 from c4) c5)
   refine Wc.enter (Wl.bs 0 6 [(58,(.sl 1 0 0 (List.length gs) none)),(59,(.gsl 1 (List.map V.str ts) (some 7))),(63,(.gptr 1 (List.map bV l) (Int.toNat ((i:Int)+1)*1)))] [(i64r ((i:Int)+1)),((0≤(i:Int)+1)∧((i:Int)+1<(List.length (List.map bV l):Int)))] (.cons (by omega) (.cons (by omega) .nil)) ?_)
   refine Wl.l 6 [(64,(.int .u8 ((UInt8.toNat (List.getD l (Int.toNat ((i:Int)+1)) 0):Int))))] (@Go.AM.ldB (hp [Obj.row 0 26 4 0 (some 1) [V.agg [V.int .i64 0,V.str [],V.int .i64 0,V.nils]],Obj.row 0 26 4 0 none (List.map encD gs)]) (l) (Int.toNat ((i:Int)+1)) (by omega)) ?_
   refine Wl.bs 7 9 [(66,(.gptr 1 (List.map V.str ts) (Int.toNat ((UInt8.toNat (List.getD l (Int.toNat ((i:Int)+1)) 0):Int)%7)*1)))] [(((0:Int)≤(UInt8.toNat (List.getD l (Int.toNat ((i:Int)+1)) 0):Int))∧((0:Int)<7)),(((0:Int)≤(UInt8.toNat (List.getD l (Int.toNat ((i:Int)+1)) 0):Int)%7)∧((UInt8.toNat (List.getD l (Int.toNat ((i:Int)+1)) 0):Int)%7<(List.length (List.map V.str ts):Int)))] (.cons (by omega) (.cons (by (simp;omega)) .nil)) ?_
   refine Wl.l 9 [(67,(.str (List.getD ts (Int.toNat ((UInt8.toNat (List.getD l (Int.toNat ((i:Int)+1)) 0):Int)%7)) [])))] (@Go.AM.ldT (hp [Obj.row 0 26 4 0 (some 1) [V.agg [V.int .i64 0,V.str [],V.int .i64 0,V.nils]],Obj.row 0 26 4 0 none (List.map encD gs)]) (ts) (Int.toNat ((UInt8.toNat (List.getD l (Int.toNat ((i:Int)+1)) 0):Int)%7)) (by omega)) ?_
   refine Wl.c 10 [(68,(.agg [(.int .i64 1),(.str ((Dc.mk 1 (List.getD ts (Int.toNat ((UInt8.toNat (List.getD l (Int.toNat ((i:Int)+1)) 0):Int)%7)) []) 0 []).text)),(.int .i64 0),(.osl 4 (esD (Dc.mk 1 (List.getD ts (Int.toNat ((UInt8.toNat (List.getD l (Int.toNat ((i:Int)+1)) 0):Int)%7)) []) 0 [])))]))] (@Go.AM.cSay (List.getD ts (Int.toNat ((UInt8.toNat (List.getD l (Int.toNat ((i:Int)+1)) 0):Int)%7)) []) hne) ?_
   refine Wl.bn 11 14 [(3,(.sl 1 1 0 (List.length gs+List.length [V.agg [V.int .i64 1,V.str (Dc.mk 1 (List.getD ts (Int.toNat ((UInt8.toNat (List.getD l (Int.toNat ((i:Int)+1)) 0):Int)%7)) []) 0 []).text,V.int .i64 0,V.osl 4 (esD (Dc.mk 1 (List.getD ts (Int.toNat ((UInt8.toNat (List.getD l (Int.toNat ((i:Int)+1)) 0):Int)%7)) []) 0 []))]]) none))] (hp [.row 0 26 4 0 (some 1) [(.agg [(.int .i64 0),(.str []),(.int .i64 0),.nils])],.row 1 26 4 0 none (List.map encD gs++[V.agg [V.int .i64 1,V.str (Dc.mk 1 (List.getD ts (Int.toNat ((UInt8.toNat (List.getD l (Int.toNat ((i:Int)+1)) 0):Int)%7)) []) 0 []).text,V.int .i64 0,V.osl 4 (esD (Dc.mk 1 (List.getD ts (Int.toNat ((UInt8.toNat (List.getD l (Int.toNat ((i:Int)+1)) 0):Int)%7)) []) 0 []))]])]) [(((0:Nat)=0)∧(([V.agg [V.int .i64 1,V.str (Dc.mk 1 (List.getD ts (Int.toNat ((UInt8.toNat (List.getD l (Int.toNat ((i:Int)+1)) 0):Int)%7)) []) (0:Int) []).text,V.int .i64 0,V.osl 4 (esD (Dc.mk 1 (List.getD ts (Int.toNat ((UInt8.toNat (List.getD l (Int.toNat ((i:Int)+1)) 0):Int)%7)) []) (0:Int) []))]]≠[])∧((List.length gs=List.length (List.map encD gs))∧(((0:Nat)≤List.length gs)∧((List.length gs+List.length [V.agg [V.int .i64 1,V.str (Dc.mk 1 (List.getD ts (Int.toNat ((UInt8.toNat (List.getD l (Int.toNat ((i:Int)+1)) 0):Int)%7)) []) (0:Int) []).text,V.int .i64 0,V.osl 4 (esD (Dc.mk 1 (List.getD ts (Int.toNat ((UInt8.toNat (List.getD l (Int.toNat ((i:Int)+1)) 0):Int)%7)) []) (0:Int) []))]]≤(1099511627776:Nat))∧((List.length gs+List.length [V.agg [V.int .i64 1,V.str (Dc.mk 1 (List.getD ts (Int.toNat ((UInt8.toNat (List.getD l (Int.toNat ((i:Int)+1)) 0):Int)%7)) []) (0:Int) []).text,V.int .i64 0,V.osl 4 (esD (Dc.mk 1 (List.getD ts (Int.toNat ((UInt8.toNat (List.getD l (Int.toNat ((i:Int)+1)) 0):Int)%7)) []) (0:Int) []))]])*56≤(1099511627776:Nat)))))))] (.cons (by exact ⟨rfl,by simp,by simp,by omega,by simp only [List.length_cons,List.length_nil];omega,by simp only [List.length_cons,List.length_nil];omega⟩) .nil) ?_
   refine Wl.dn 14 (Wc.w [(5,(.int .i64 ((i:Int)+2)))] [(i64r ((i:Int)+2))] (.cons (by omega) .nil) ?_)
   subst hts
   refine q29 gs ⟨1,q09.getD ((l.getD (i+1) 0).toNat%7) [],0,[]⟩ (x:=encD ⟨1,q09.getD ((l.getD (i+1) 0).toNat%7) [],0,[]⟩) ?_ rfl (.refl rfl) h2 (by omega) (by omega) (by rw [hstep,qi2 _ _ _ (by omega)])
   exact Vw.gk [(0,false),(1,true)] [(∀ (e:V),e∈List.map encD gs++[V.agg [V.int .i64 1,V.str (Dc.mk 1 (List.getD q09 (Int.toNat ((UInt8.toNat (List.getD l (Int.toNat ((i:Int)+1)) 0):Int)%7)) []) (0:Int) []).text,V.int .i64 0,V.osl 4 (esD (Dc.mk 1 (List.getD q09 (Int.toNat ((UInt8.toNat (List.getD l (Int.toNat ((i:Int)+1)) 0):Int)%7)) []) (0:Int) []))]]→x2 (x4 3) (V.cells e)=true),(0=0),(1=1)] (.cons (by exact w6 (x3 (fun _=>rfl) _) (q63 rfl)) (.cons (by omega) (.cons (by omega) .nil)))
  refine Wc.w0 [(54,(.bool (decide ((UInt8.toNat (List.getD l i 0):Int)%10=2))))] ?_
  refine Wc.cq (p:=(UInt8.toNat (List.getD l i 0):Int)%10=2) (fun c6=>?_) (fun c6=>?_)
  ·refine Wc.enter (Wl.bs 0 6 [(58,(.sl 1 0 0 (List.length gs) none)),(59,(.gsl 1 (List.map V.str ts) (some 7))),(63,(.gptr 1 (List.map bV l) (Int.toNat ((i:Int)+1)*1)))] [(i64r ((i:Int)+1)),((0≤(i:Int)+1)∧((i:Int)+1<(List.length (List.map bV l):Int)))] (.cons (by omega) (.cons (by omega) .nil)) ?_)
   refine Wl.l 6 [(64,(.int .u8 ((UInt8.toNat (List.getD l (Int.toNat ((i:Int)+1)) 0):Int))))] (@Go.AM.ldB (hp [Obj.row 0 26 4 0 (some 1) [V.agg [V.int .i64 0,V.str [],V.int .i64 0,V.nils]],Obj.row 0 26 4 0 none (List.map encD gs)]) (l) (Int.toNat ((i:Int)+1)) (by omega)) ?_
   refine Wl.bs 7 9 [(66,(.gptr 1 (List.map V.str ts) (Int.toNat ((UInt8.toNat (List.getD l (Int.toNat ((i:Int)+1)) 0):Int)%7)*1)))] [(((0:Int)≤(UInt8.toNat (List.getD l (Int.toNat ((i:Int)+1)) 0):Int))∧((0:Int)<7)),(((0:Int)≤(UInt8.toNat (List.getD l (Int.toNat ((i:Int)+1)) 0):Int)%7)∧((UInt8.toNat (List.getD l (Int.toNat ((i:Int)+1)) 0):Int)%7<(List.length (List.map V.str ts):Int)))] (.cons (by omega) (.cons (by (simp;omega)) .nil)) ?_
   refine Wl.l 9 [(67,(.str (List.getD ts (Int.toNat ((UInt8.toNat (List.getD l (Int.toNat ((i:Int)+1)) 0):Int)%7)) [])))] (@Go.AM.ldT (hp [Obj.row 0 26 4 0 (some 1) [V.agg [V.int .i64 0,V.str [],V.int .i64 0,V.nils]],Obj.row 0 26 4 0 none (List.map encD gs)]) (ts) (Int.toNat ((UInt8.toNat (List.getD l (Int.toNat ((i:Int)+1)) 0):Int)%7)) (by omega)) ?_
   refine Wl.c 10 [(68,(.agg [(.int .i64 1),(.str ((Dc.mk 1 (List.getD ts (Int.toNat ((UInt8.toNat (List.getD l (Int.toNat ((i:Int)+1)) 0):Int)%7)) []) 0 []).text)),(.int .i64 0),(.osl 4 (esD (Dc.mk 1 (List.getD ts (Int.toNat ((UInt8.toNat (List.getD l (Int.toNat ((i:Int)+1)) 0):Int)%7)) []) 0 [])))]))] (@Go.AM.cSay (List.getD ts (Int.toNat ((UInt8.toNat (List.getD l (Int.toNat ((i:Int)+1)) 0):Int)%7)) []) hne) ?_
   refine Wl.bn 11 14 [(3,(.sl 1 1 0 (List.length gs+List.length [V.agg [V.int .i64 1,V.str (Dc.mk 1 (List.getD ts (Int.toNat ((UInt8.toNat (List.getD l (Int.toNat ((i:Int)+1)) 0):Int)%7)) []) 0 []).text,V.int .i64 0,V.osl 4 (esD (Dc.mk 1 (List.getD ts (Int.toNat ((UInt8.toNat (List.getD l (Int.toNat ((i:Int)+1)) 0):Int)%7)) []) 0 []))]]) none))] (hp [.row 0 26 4 0 (some 1) [(.agg [(.int .i64 0),(.str []),(.int .i64 0),.nils])],.row 1 26 4 0 none (List.map encD gs++[V.agg [V.int .i64 1,V.str (Dc.mk 1 (List.getD ts (Int.toNat ((UInt8.toNat (List.getD l (Int.toNat ((i:Int)+1)) 0):Int)%7)) []) 0 []).text,V.int .i64 0,V.osl 4 (esD (Dc.mk 1 (List.getD ts (Int.toNat ((UInt8.toNat (List.getD l (Int.toNat ((i:Int)+1)) 0):Int)%7)) []) 0 []))]])]) [(((0:Nat)=0)∧(([V.agg [V.int .i64 1,V.str (Dc.mk 1 (List.getD ts (Int.toNat ((UInt8.toNat (List.getD l (Int.toNat ((i:Int)+1)) 0):Int)%7)) []) (0:Int) []).text,V.int .i64 0,V.osl 4 (esD (Dc.mk 1 (List.getD ts (Int.toNat ((UInt8.toNat (List.getD l (Int.toNat ((i:Int)+1)) 0):Int)%7)) []) (0:Int) []))]]≠[])∧((List.length gs=List.length (List.map encD gs))∧(((0:Nat)≤List.length gs)∧((List.length gs+List.length [V.agg [V.int .i64 1,V.str (Dc.mk 1 (List.getD ts (Int.toNat ((UInt8.toNat (List.getD l (Int.toNat ((i:Int)+1)) 0):Int)%7)) []) (0:Int) []).text,V.int .i64 0,V.osl 4 (esD (Dc.mk 1 (List.getD ts (Int.toNat ((UInt8.toNat (List.getD l (Int.toNat ((i:Int)+1)) 0):Int)%7)) []) (0:Int) []))]]≤(1099511627776:Nat))∧((List.length gs+List.length [V.agg [V.int .i64 1,V.str (Dc.mk 1 (List.getD ts (Int.toNat ((UInt8.toNat (List.getD l (Int.toNat ((i:Int)+1)) 0):Int)%7)) []) (0:Int) []).text,V.int .i64 0,V.osl 4 (esD (Dc.mk 1 (List.getD ts (Int.toNat ((UInt8.toNat (List.getD l (Int.toNat ((i:Int)+1)) 0):Int)%7)) []) (0:Int) []))]])*56≤(1099511627776:Nat)))))))] (.cons (by exact ⟨rfl,by simp,by simp,by omega,by simp only [List.length_cons,List.length_nil];omega,by simp only [List.length_cons,List.length_nil];omega⟩) .nil) ?_
   refine Wl.dn 14 (Wc.w [(5,(.int .i64 ((i:Int)+2)))] [(i64r ((i:Int)+2))] (.cons (by omega) .nil) ?_)
   subst hts
   refine q29 gs ⟨1,q09.getD ((l.getD (i+1) 0).toNat%7) [],0,[]⟩ (x:=encD ⟨1,q09.getD ((l.getD (i+1) 0).toNat%7) [],0,[]⟩) ?_ rfl (.refl rfl) h2 (by omega) (by omega) (by rw [hstep,qi2 _ _ _ (by omega)])
   exact Vw.gk [(0,false),(1,true)] [(∀ (e:V),e∈List.map encD gs++[V.agg [V.int .i64 1,V.str (Dc.mk 1 (List.getD q09 (Int.toNat ((UInt8.toNat (List.getD l (Int.toNat ((i:Int)+1)) 0):Int)%7)) []) (0:Int) []).text,V.int .i64 0,V.osl 4 (esD (Dc.mk 1 (List.getD q09 (Int.toNat ((UInt8.toNat (List.getD l (Int.toNat ((i:Int)+1)) 0):Int)%7)) []) (0:Int) []))]]→x2 (x4 3) (V.cells e)=true),(0=0),(1=1)] (.cons (by exact w6 (x3 (fun _=>rfl) _) (q63 rfl)) (.cons (by omega) (.cons (by omega) .nil)))
  refine Wc.seq (Wc.seq (Wc.w0 [(71,(.bool (decide ((UInt8.toNat (List.getD l i 0):Int)%10=3))))] ?_))
  refine Wc.cq (p:=(UInt8.toNat (List.getD l i 0):Int)%10=3) (fun c7=>?_) (fun c7=>?_)
  ·refine Wc.skip ?_
   refine Wc.cq (p:=(UInt8.toNat (List.getD l i 0):Int)%10=3) (fun c8=>?_) (fun c8=>absurd (show (UInt8.toNat (List.getD l i 0):Int)%10=3 from c7) c8)
   refine Wc.wn [(3,(.sl 1 1 0 (List.length gs+List.length [V.agg (j1 [V.int .i64 0,V.str [],V.int .i64 0,V.nils] 0 (V.cells (V.int .i64 2)))]) none))] (hp [.row 0 26 4 0 (some 1) [(.agg [(.int .i64 0),(.str []),(.int .i64 0),.nils])],.row 1 26 4 0 none (List.map encD gs++[V.agg (j1 [V.int .i64 0,V.str [],V.int .i64 0,V.nils] 0 (V.cells (V.int .i64 2)))])]) [(((0:Nat)=0)∧(([V.agg (j1 [V.int .i64 0,V.str [],V.int .i64 0,V.nils] (0:Nat) (V.cells (V.int .i64 2)))]≠[])∧((List.length gs=List.length (List.map encD gs))∧(((0:Nat)≤List.length gs)∧((List.length gs+List.length [V.agg (j1 [V.int .i64 0,V.str [],V.int .i64 0,V.nils] (0:Nat) (V.cells (V.int .i64 2)))]≤(1099511627776:Nat))∧((List.length gs+List.length [V.agg (j1 [V.int .i64 0,V.str [],V.int .i64 0,V.nils] (0:Nat) (V.cells (V.int .i64 2)))])*56≤(1099511627776:Nat)))))))] (.cons (by exact ⟨rfl,by simp,by simp,by omega,by simp only [List.length_cons,List.length_nil];omega,by simp only [List.length_cons,List.length_nil];omega⟩) .nil) ?_
   refine Wc.w [(3,(.sl 1 1 0 (List.length gs+1) none)),(5,(.int .i64 ((i:Int)+2)))] [(i64r ((i:Int)+2))] (.cons (by omega) .nil) ?_
   refine q29 gs ⟨2,[],0,[]⟩ (x:=.agg [.int .i64 2,.str [],.int .i64 0,.nils]) ?_ rfl qi7 h2 (by omega) (by omega) (by rw [hstep,qm3 _ _ _ (by omega) (by omega)])
   exact Vw.gk [(0,false),(1,true)] [(∀ (e:V),e∈List.map encD gs++[V.agg (j1 [V.int .i64 0,V.str [],V.int .i64 0,V.nils] (0:Nat) (V.cells (V.int .i64 2)))]→x2 (x4 3) (V.cells e)=true),(0=0),(1=1)] (.cons (by exact w6 (x3 (fun _=>rfl) _) (q63 rfl)) (.cons (by omega) (.cons (by omega) .nil)))
  refine Wc.w0 [(71,(.bool (decide ((UInt8.toNat (List.getD l i 0):Int)%10=4))))] ?_
  refine Wc.cq (p:=(UInt8.toNat (List.getD l i 0):Int)%10=4) (fun c9=>?_) (fun c9=>?_)
  ·refine Wc.wn [(3,(.sl 1 1 0 (List.length gs+List.length [V.agg (j1 [V.int .i64 0,V.str [],V.int .i64 0,V.nils] 0 (V.cells (V.int .i64 2)))]) none))] (hp [.row 0 26 4 0 (some 1) [(.agg [(.int .i64 0),(.str []),(.int .i64 0),.nils])],.row 1 26 4 0 none (List.map encD gs++[V.agg (j1 [V.int .i64 0,V.str [],V.int .i64 0,V.nils] 0 (V.cells (V.int .i64 2)))])]) [(((0:Nat)=0)∧(([V.agg (j1 [V.int .i64 0,V.str [],V.int .i64 0,V.nils] (0:Nat) (V.cells (V.int .i64 2)))]≠[])∧((List.length gs=List.length (List.map encD gs))∧(((0:Nat)≤List.length gs)∧((List.length gs+List.length [V.agg (j1 [V.int .i64 0,V.str [],V.int .i64 0,V.nils] (0:Nat) (V.cells (V.int .i64 2)))]≤(1099511627776:Nat))∧((List.length gs+List.length [V.agg (j1 [V.int .i64 0,V.str [],V.int .i64 0,V.nils] (0:Nat) (V.cells (V.int .i64 2)))])*56≤(1099511627776:Nat)))))))] (.cons (by exact ⟨rfl,by simp,by simp,by omega,by simp only [List.length_cons,List.length_nil];omega,by simp only [List.length_cons,List.length_nil];omega⟩) .nil) ?_
   refine Wc.w [(3,(.sl 1 1 0 (List.length gs+1) none)),(5,(.int .i64 ((i:Int)+2)))] [(i64r ((i:Int)+2))] (.cons (by omega) .nil) ?_
   refine q29 gs ⟨2,[],0,[]⟩ (x:=.agg [.int .i64 2,.str [],.int .i64 0,.nils]) ?_ rfl qi7 h2 (by omega) (by omega) (by rw [hstep,qm3 _ _ _ (by omega) (by omega)])
   exact Vw.gk [(0,false),(1,true)] [(∀ (e:V),e∈List.map encD gs++[V.agg (j1 [V.int .i64 0,V.str [],V.int .i64 0,V.nils] (0:Nat) (V.cells (V.int .i64 2)))]→x2 (x4 3) (V.cells e)=true),(0=0),(1=1)] (.cons (by exact w6 (x3 (fun _=>rfl) _) (q63 rfl)) (.cons (by omega) (.cons (by omega) .nil)))
  refine Wc.seq (Wc.w0 [(78,(.bool (decide ((UInt8.toNat (List.getD l i 0):Int)%10=5))))] ?_)
  refine Wc.cq (p:=(UInt8.toNat (List.getD l i 0):Int)%10=5) (fun c10=>?_) (fun c10=>?_)
  ·refine Wc.enter (Wl.bs 0 5 [(80,(.sl 1 0 0 (List.length gs) none)),(84,(.gptr 1 (List.map bV l) (Int.toNat ((i:Int)+1)*1)))] [(i64r ((i:Int)+1)),((0≤(i:Int)+1)∧((i:Int)+1<(List.length (List.map bV l):Int)))] (.cons (by omega) (.cons (by omega) .nil)) ?_)
   refine Wl.l 5 [(85,(.int .u8 ((UInt8.toNat (List.getD l (Int.toNat ((i:Int)+1)) 0):Int))))] (@Go.AM.ldB (hp [Obj.row 0 26 4 0 (some 1) [V.agg [V.int .i64 0,V.str [],V.int .i64 0,V.nils]],Obj.row 0 26 4 0 none (List.map encD gs)]) (l) (Int.toNat ((i:Int)+1)) (by omega)) ?_
   let v36:V:=(.agg [(.int .i64 0),(.str []),(.int .i64 0),.nils])
   let v37:Obj:=.row 0 26 4 0 (some 1) [v36]
   refine Wl.bn 6 13 [(3, (.sl 1 1 0 (List.length gs + List.length [V.agg (j1 [V.int .i64 0, V.str [], V.int .i64 0, V.nils] #[Field.mk "Kind" 3 0 false "" "" 0, Field.mk "Text" 9 1 false "" "" 8, Field.mk "N" 3 2 false "" "" 24, Field.mk "Kids" 24 3 false "" "" 32][0].offset (V.cells (V.int .i64 (3 + (UInt8.toNat (List.getD l (Int.toNat ((i : Int) + 1)) 0) : Int) / 200))))]) none))] (hp [v37, .row 1 26 4 0 none (List.map encD gs ++ [V.agg (j1 [V.int .i64 0, V.str [], V.int .i64 0, V.nils] #[Field.mk "Kind" 3 0 false "" "" 0, Field.mk "Text" 9 1 false "" "" 8, Field.mk "N" 3 2 false "" "" 24, Field.mk "Kids" 24 3 false "" "" 32][0].offset (V.cells (V.int .i64 (3 + (UInt8.toNat (List.getD l (Int.toNat ((i : Int) + 1)) 0) : Int) / 200))))])]) [(((0 : Int) ≤ (UInt8.toNat (List.getD l (Int.toNat ((i : Int) + 1)) 0) : Int)) ∧ (((0 : Int) < 200) ∧ (((0 : Int) ≤ (UInt8.toNat (List.getD l (Int.toNat ((i : Int) + 1)) 0) : Int) / 200) ∧ ((UInt8.toNat (List.getD l (Int.toNat ((i : Int) + 1)) 0) : Int) / 200 ≤ (255 : Int))))), (((-9223372036854775808 : Int) ≤ (UInt8.toNat (List.getD l (Int.toNat ((i : Int) + 1)) 0) : Int) / 200) ∧ ((UInt8.toNat (List.getD l (Int.toNat ((i : Int) + 1)) 0) : Int) / 200 ≤ (9223372036854775807 : Int))), (((-9223372036854775808 : Int) ≤ 3 + (UInt8.toNat (List.getD l (Int.toNat ((i : Int) + 1)) 0) : Int) / 200) ∧ ((3 : Int) + (UInt8.toNat (List.getD l (Int.toNat ((i : Int) + 1)) 0) : Int) / 200 ≤ (9223372036854775807 : Int))), (((0 : Nat) = 0) ∧ (([V.agg (j1 [V.int .i64 0, V.str [], V.int .i64 0, V.nils] #[Field.mk "Kind" (3 : Nat) (0 : Nat) false "" "" (0 : Nat), Field.mk "Text" (9 : Nat) (1 : Nat) false "" "" (8 : Nat), Field.mk "N" (3 : Nat) (2 : Nat) false "" "" (24 : Nat), Field.mk "Kids" (24 : Nat) (3 : Nat) false "" "" (32 : Nat)][(0 : Nat)].offset (V.cells (V.int .i64 ((3 : Int) + (UInt8.toNat (List.getD l (Int.toNat ((i : Int) + 1)) 0) : Int) / 200))))] ≠ []) ∧ ((List.length gs = List.length (List.map encD gs)) ∧ (((0 : Nat) ≤ List.length gs) ∧ ((List.length gs + List.length [V.agg (j1 [V.int .i64 0, V.str [], V.int .i64 0, V.nils] #[Field.mk "Kind" (3 : Nat) (0 : Nat) false "" "" (0 : Nat), Field.mk "Text" (9 : Nat) (1 : Nat) false "" "" (8 : Nat), Field.mk "N" (3 : Nat) (2 : Nat) false "" "" (24 : Nat), Field.mk "Kids" (24 : Nat) (3 : Nat) false "" "" (32 : Nat)][(0 : Nat)].offset (V.cells (V.int .i64 ((3 : Int) + (UInt8.toNat (List.getD l (Int.toNat ((i : Int) + 1)) 0) : Int) / 200))))] ≤ (1099511627776 : Nat)) ∧ ((List.length gs + List.length [V.agg (j1 [V.int .i64 0, V.str [], V.int .i64 0, V.nils] #[Field.mk "Kind" (3 : Nat) (0 : Nat) false "" "" (0 : Nat), Field.mk "Text" (9 : Nat) (1 : Nat) false "" "" (8 : Nat), Field.mk "N" (3 : Nat) (2 : Nat) false "" "" (24 : Nat), Field.mk "Kids" (24 : Nat) (3 : Nat) false "" "" (32 : Nat)][(0 : Nat)].offset (V.cells (V.int .i64 ((3 : Int) + (UInt8.toNat (List.getD l (Int.toNat ((i : Int) + 1)) 0) : Int) / 200))))]) * 56 ≤ (1099511627776 : Nat)))))))] (.cons (by omega) (.cons (by omega) (.cons (by omega) (.cons (by exact ⟨rfl, by simp, by simp, by omega, by simp only [List.length_cons, List.length_nil]; omega, by simp only [List.length_cons, List.length_nil]; omega⟩) .nil)))) ?_
   refine Wl.dn 13 (Wc.wn [(3,(.sl 1 1 0 (List.length gs+1) none)),(5,(.int .i64 ((i:Int)+2)))] (hp [v37,.row 1 26 4 0 none (List.map encD gs++[V.agg (j1 [V.int .i64 0,V.str [],V.int .i64 0,V.nils] 0 (V.cells (V.int .i64 (3+(UInt8.toNat (List.getD l (Int.toNat ((i:Int)+1)) 0):Int)/200))))])]) [(i64r ((i:Int)+2))] (.cons (by omega) .nil) ?_)
   refine q29 gs ⟨3+((l.getD (i+1) 0).toNat/200:Nat),[],0,[]⟩ (x:=.agg [.int .i64 (3+((l.getD (i+1) 0).toNat/200:Nat)),.str [],.int .i64 0,.nils]) ?_ rfl qi7 h2 (by omega) (by omega) (by rw [hstep,zf0 _ _ _ (by omega)])
   exact Vw.gk [(0,false),(1,true)] [(∀ (e:V),e∈List.map encD gs++[V.agg (j1 [V.int .i64 0,V.str [],V.int .i64 0,V.nils] (0:Nat) (V.cells (V.int .i64 ((3:Int)+(UInt8.toNat (List.getD l (Int.toNat ((i:Int)+1)) 0):Int)/200))))]→x2 (x4 3) (V.cells e)=true),(0=0),(1=1)] (.cons (by exact w6 (x3 (fun _=>rfl) _) (q63 rfl)) (.cons (by omega) (.cons (by omega) .nil)))
  refine Wc.seq (Wc.w0 [(92,(.bool (decide ((UInt8.toNat (List.getD l i 0):Int)%10=6))))] ?_)
  refine Wc.cq (p:=(UInt8.toNat (List.getD l i 0):Int)%10=6) (fun c11=>?_) (fun c11=>?_)
  ·refine Wc.seq ?_
   obtain ⟨kp,hkp⟩:∃ kp,kp=gs.take (gs.length-k):=⟨_,rfl⟩
   obtain ⟨kd,hkd⟩:∃ kd,kd=gs.drop (gs.length-k):=⟨_,rfl⟩
   have hkpl:kp.length=gs.length-k:=by rw [hkp,List.length_take];omega
   have hkdl:kd.length=k:=by rw [hkd,List.length_drop];omega
   rw [← hkd]
   refine Wc.mid ((base 9 140).on [(0,.osl 1 (l.map bV)),(2,.ptr 0 0 0),(3,.sl 1 0 0 kp.length none),(4,.gsl 1 (ts.map V.str) (some 7)),(5,.int .i64 (i:Int)),(7,.osl 4 (kd.map encD))]) (hp [.row 0 26 4 0 (some 1) [.agg [.int .i64 0,.str [],.int .i64 0,.nils]],.row 0 26 4 0 none (kp.map encD)]) ?_ ?_
   ·refine Wc.wn [(0,(.osl 1 (List.map bV l))),(2,(.ptr 0 0 0)),(3,(.sl 1 0 0 (Int.toNat ((List.length gs:Int)-(k:Int))) none)),(4,(.gsl 1 (List.map V.str ts) (some 7))),(5,(.int .i64 (i:Int))),(6,(.int .i64 (k:Int))),(7,(.osl 4 (List.map encD kd))),(42,(.int .u8 ((UInt8.toNat (List.getD l i 0):Int)%10))),(54,(.bool (decide ((UInt8.toNat (List.getD l i 0):Int)%10=2)))),(71,(.bool (decide ((UInt8.toNat (List.getD l i 0):Int)%10=4)))),(78,(.bool (decide ((UInt8.toNat (List.getD l i 0):Int)%10=5)))),(92,(.bool (decide ((UInt8.toNat (List.getD l i 0):Int)%10=6))))] (hp [.row 0 26 4 0 (some 1) [(.agg [(.int .i64 0),(.str []),(.int .i64 0),.nils])],.row 0 26 4 0 none (List.map encD gs)]) [(i64r ((List.length gs:Int)-(k:Int))),((0≤(List.length gs:Int)-(k:Int))∧((List.length gs:Int)-(k:Int)≤(List.length gs:Int)))] (.cons (by omega) (.cons (by omega) .nil)) ?_
    refine Vw.trans (Vw.gc (b:=(base 9 140)) [(0,false),(1,true)] [0,2,3,4,5,7] [(0,(.osl 1 (List.map bV l))),(2,(.ptr 0 0 0)),(3,(.sl 1 0 0 (Int.toNat ((List.length gs:Int)-(k:Int))) none)),(4,(.gsl 1 (List.map V.str ts) (some 7))),(5,(.int .i64 (i:Int))),(7,(.osl 4 (List.map encD kd)))] [(0,(.osl 1 (List.map bV l))),(2,(.ptr 0 0 0)),(3,(.sl 1 0 0 (Int.toNat ((List.length gs:Int)-(k:Int))) none)),(4,(.gsl 1 (List.map V.str ts) (some 7))),(5,(.int .i64 (i:Int))),(7,(.osl 4 (List.map encD kd)))] [.row 0 26 4 0 (some 1) [(.agg [(.int .i64 0),(.str []),(.int .i64 0),.nils])],.row 0 26 4 0 none (List.map encD gs)] ⟨rfl,rfl,rfl⟩ (by kernel_rfl) (by kernel_rfl) (by kernel_rfl) (by kernel_rfl) [(∀ (e:V),e∈List.map encD gs→x2 (x4 (3:Nat)) (V.cells e)=true),((0:Nat)=0),((0:Nat)=0)] (by kernel_rfl) (.cons (by exact x3 (fun _=>rfl) _) (.cons (by omega) (.cons (by omega) .nil)))) ?_
    have e1:Int.toNat ((↑(List.length gs):Int)-(↑k:Int))=kp.length:=by omega
    rw [e1]
    exact zi5 hkp
   let v38:V:=(.int .i64 ((UInt8.toNat (List.getD l (Int.toNat ((i:Int)+1)) 0):Int)%5-2+5*((UInt8.toNat (List.getD l (Int.toNat ((i:Int)+1)) 0):Int)%2)))
   let v39:V:=(.agg [(.int .i64 7),(.str []),(.int .i64 0),(.osl 4 (List.map encD kd))])
   refine Wc.drawnP 22 [v38,v39] (encD (Dc.mk 5 [] ((UInt8.toNat (List.getD l (Int.toNat ((i:Int)+1)) 0):Int)%5-2+5*((UInt8.toNat (List.getD l (Int.toNat ((i:Int)+1)) 0):Int)%2)) [Dc.mk 7 [] 0 kd])) (@Go.AM.cInO (kd) ((UInt8.toNat (List.getD l (Int.toNat ((i:Int)+1)) 0):Int)%5-2+5*((UInt8.toNat (List.getD l (Int.toNat ((i:Int)+1)) 0):Int)%2))) (by kernel_rfl) ?_
   let v40:V:=(.gptr 1 (List.map bV l) (Int.toNat ((i:Int)+1)*1))
   let v41:V:=(.agg [(.int .i64 0),(.str []),(.int .i64 0),.nils])
   let v42:Obj:=.row 0 26 4 0 (some 1) [v41]
   let v43:Obj:=.row 0 26 4 0 none (List.map encD kp)
   refine Dl.bn 0 5 [(0,(.osl 1 (List.map bV l))),(2,(.ptr 0 0 0)),(3,(.sl 1 0 0 (List.length kp) none)),(4,(.gsl 1 (List.map V.str ts) (some 7))),(5,(.int .i64 (i:Int))),(7,(.osl 4 (List.map encD kd))),(100,(.sl 1 0 0 (List.length kp) none)),(104,v40)] (hp [v42,v43]) [(i64r ((i:Int)+1)),((0≤(i:Int)+1)∧((i:Int)+1<(List.length (List.map bV l):Int)))] (.cons (by omega) (.cons (by omega) .nil)) ?_
   let v44:V:=(.int .u8 ((UInt8.toNat (List.getD l (Int.toNat ((i:Int)+1)) 0):Int)))
   let v45:Heap:=(hp [Obj.row 0 26 4 0 (some 1) [V.agg [V.int .i64 0,V.str [],V.int .i64 0,V.nils]],Obj.row 0 26 4 0 none (List.map encD kp)])
   refine Dl.l 5 [(105,v44)] (@Go.AM.ldB v45 (l) (Int.toNat ((i:Int)+1)) (by omega)) ?_
   refine Dl.bs 6 13 [(108,(.int .i64 ((UInt8.toNat (List.getD l (Int.toNat ((i:Int)+1)) 0):Int)%5-2))),(112,v40)] [((0≤(UInt8.toNat (List.getD l (Int.toNat ((i:Int)+1)) 0):Int))∧((0:Int)<5)),(i64r ((UInt8.toNat (List.getD l (Int.toNat ((i:Int)+1)) 0):Int)%5)),(i64r ((UInt8.toNat (List.getD l (Int.toNat ((i:Int)+1)) 0):Int)%5-2)),(i64r ((i:Int)+1)),((0≤(i:Int)+1)∧((i:Int)+1<(List.length (List.map bV l):Int)))] (.cons (by omega) (.cons (by omega) (.cons (by omega) (.cons (by omega) (.cons (by omega) .nil))))) ?_
   refine Dl.l 13 [(113,v44)] (@Go.AM.ldB v45 (l) (Int.toNat ((i:Int)+1)) (by omega)) ?_
   refine Dl.bs 14 20 [(117,v38),(119,v39)] [((0≤(UInt8.toNat (List.getD l (Int.toNat ((i:Int)+1)) 0):Int))∧((0:Int)<2)),(i64r ((UInt8.toNat (List.getD l (Int.toNat ((i:Int)+1)) 0):Int)%2)),(i64r ((5:Int)*((UInt8.toNat (List.getD l (Int.toNat ((i:Int)+1)) 0):Int)%2))),(i64r ((UInt8.toNat (List.getD l (Int.toNat ((i:Int)+1)) 0):Int)%5-2+5*((UInt8.toNat (List.getD l (Int.toNat ((i:Int)+1)) 0):Int)%2)))] (.cons (by omega) (.cons (by omega) (.cons (by omega) (.cons (by omega) .nil)))) ?_
   refine Dl.c 20 [(120,(.agg [(.int .i64 5),(.str []),(.int .i64 ((Dc.mk 5 [] ((UInt8.toNat (List.getD l (Int.toNat ((i:Int)+1)) 0):Int)%5-2+5*((UInt8.toNat (List.getD l (Int.toNat ((i:Int)+1)) 0):Int)%2)) [Dc.mk 7 [] 0 kd]).n)),(.osl 4 (esD (Dc.mk 5 [] ((UInt8.toNat (List.getD l (Int.toNat ((i:Int)+1)) 0):Int)%5-2+5*((UInt8.toNat (List.getD l (Int.toNat ((i:Int)+1)) 0):Int)%2)) [Dc.mk 7 [] 0 kd])))]))] q97 (by rfl) ?_
   refine Dl.bn 21 24 [(3,(.sl 1 1 0 (List.length kp+List.length [V.agg [V.int .i64 5,V.str [],V.int .i64 (Dc.mk 5 [] ((UInt8.toNat (List.getD l (Int.toNat ((i:Int)+1)) 0):Int)%5-2+5*((UInt8.toNat (List.getD l (Int.toNat ((i:Int)+1)) 0):Int)%2)) [Dc.mk 7 [] 0 kd]).n,V.osl 4 (esD (Dc.mk 5 [] ((UInt8.toNat (List.getD l (Int.toNat ((i:Int)+1)) 0):Int)%5-2+5*((UInt8.toNat (List.getD l (Int.toNat ((i:Int)+1)) 0):Int)%2)) [Dc.mk 7 [] 0 kd]))]]) none))] (hp [v42,.row 1 26 4 0 none (List.map encD kp++[V.agg [V.int .i64 5,V.str [],V.int .i64 (Dc.mk 5 [] ((UInt8.toNat (List.getD l (Int.toNat ((i:Int)+1)) 0):Int)%5-2+5*((UInt8.toNat (List.getD l (Int.toNat ((i:Int)+1)) 0):Int)%2)) [Dc.mk 7 [] 0 kd]).n,V.osl 4 (esD (Dc.mk 5 [] ((UInt8.toNat (List.getD l (Int.toNat ((i:Int)+1)) 0):Int)%5-2+5*((UInt8.toNat (List.getD l (Int.toNat ((i:Int)+1)) 0):Int)%2)) [Dc.mk 7 [] 0 kd]))]])]) [(((0:Nat)=0)∧(([V.agg [V.int .i64 5,V.str [],V.int .i64 (Dc.mk 5 [] ((UInt8.toNat (List.getD l (Int.toNat ((i:Int)+1)) 0):Int)%5-2+5*((UInt8.toNat (List.getD l (Int.toNat ((i:Int)+1)) 0):Int)%2)) [Dc.mk 7 [] (0:Int) kd]).n,V.osl 4 (esD (Dc.mk 5 [] ((UInt8.toNat (List.getD l (Int.toNat ((i:Int)+1)) 0):Int)%5-2+5*((UInt8.toNat (List.getD l (Int.toNat ((i:Int)+1)) 0):Int)%2)) [Dc.mk 7 [] (0:Int) kd]))]]≠[])∧((List.length kp=List.length (List.map encD kp))∧(((0:Nat)≤List.length kp)∧((List.length kp+List.length [V.agg [V.int .i64 5,V.str [],V.int .i64 (Dc.mk 5 [] ((UInt8.toNat (List.getD l (Int.toNat ((i:Int)+1)) 0):Int)%5-2+5*((UInt8.toNat (List.getD l (Int.toNat ((i:Int)+1)) 0):Int)%2)) [Dc.mk 7 [] (0:Int) kd]).n,V.osl 4 (esD (Dc.mk 5 [] ((UInt8.toNat (List.getD l (Int.toNat ((i:Int)+1)) 0):Int)%5-2+5*((UInt8.toNat (List.getD l (Int.toNat ((i:Int)+1)) 0):Int)%2)) [Dc.mk 7 [] (0:Int) kd]))]]≤(1099511627776:Nat))∧((List.length kp+List.length [V.agg [V.int .i64 5,V.str [],V.int .i64 (Dc.mk 5 [] ((UInt8.toNat (List.getD l (Int.toNat ((i:Int)+1)) 0):Int)%5-2+5*((UInt8.toNat (List.getD l (Int.toNat ((i:Int)+1)) 0):Int)%2)) [Dc.mk 7 [] (0:Int) kd]).n,V.osl 4 (esD (Dc.mk 5 [] ((UInt8.toNat (List.getD l (Int.toNat ((i:Int)+1)) 0):Int)%5-2+5*((UInt8.toNat (List.getD l (Int.toNat ((i:Int)+1)) 0):Int)%2)) [Dc.mk 7 [] (0:Int) kd]))]])*56≤(1099511627776:Nat)))))))] (.cons (by exact ⟨rfl,by simp,by simp,by omega,by simp only [List.length_cons,List.length_nil];omega,by simp only [List.length_cons,List.length_nil];omega⟩) .nil) ?_
   refine Dl.done 24 rfl ?_
   refine Wc.w [(5,(.int .i64 ((i:Int)+2)))] [(i64r ((i:Int)+2))] (.cons (by omega) .nil) ?_
   refine q29 kp ⟨5,[],(((l.getD (i+1) 0).toNat%5:Nat):Int)-2+5*(((l.getD (i+1) 0).toNat%2:Nat):Int),[⟨7,[],0,kd⟩]⟩ (x:=encD ⟨5,[],(((l.getD (i+1) 0).toNat%5:Nat):Int)-2+5*(((l.getD (i+1) 0).toNat%2:Nat):Int),[⟨7,[],0,kd⟩]⟩) ?_ rfl (.refl rfl) h2 (by omega) (by omega) (by rw [hstep,x69 _ _ _ (by omega),← hk,← hkp,← hkd])
   exact Vw.gk [(0,false),(1,true)] [(∀ (e:V),e∈List.map encD kp++[V.agg [V.int .i64 5,V.str [],V.int .i64 (Dc.mk 5 [] ((UInt8.toNat (List.getD l (Int.toNat ((i:Int)+1)) 0):Int)%5-2+5*((UInt8.toNat (List.getD l (Int.toNat ((i:Int)+1)) 0):Int)%2)) [Dc.mk 7 [] (0:Int) kd]).n,V.osl 4 (esD (Dc.mk 5 [] ((UInt8.toNat (List.getD l (Int.toNat ((i:Int)+1)) 0):Int)%5-2+5*((UInt8.toNat (List.getD l (Int.toNat ((i:Int)+1)) 0):Int)%2)) [Dc.mk 7 [] (0:Int) kd]))]]→x2 (x4 3) (V.cells e)=true),(0=0),(1=1)] (.cons (by exact w6 (x3 (fun _=>rfl) _) (q63 rfl)) (.cons (by omega) (.cons (by omega) .nil)))
  refine Wc.seq (Wc.seq (Wc.w0 [(123,(.bool (decide ((UInt8.toNat (List.getD l i 0):Int)%10=7))))] ?_))
  refine Wc.cq (p:=(UInt8.toNat (List.getD l i 0):Int)%10=7) (fun c12=>?_) (fun c12=>?_)
  ·refine Wc.skip ?_
   refine Wc.cq (p:=(UInt8.toNat (List.getD l i 0):Int)%10=7) (fun c13=>?_) (fun c13=>absurd (show (UInt8.toNat (List.getD l i 0):Int)%10=7 from c12) c13)
   refine Wc.seq ?_
   obtain ⟨kp,hkp⟩:∃ kp,kp=gs.take (gs.length-k):=⟨_,rfl⟩
   obtain ⟨kd,hkd⟩:∃ kd,kd=gs.drop (gs.length-k):=⟨_,rfl⟩
   have hkpl:kp.length=gs.length-k:=by rw [hkp,List.length_take];omega
   have hkdl:kd.length=k:=by rw [hkd,List.length_drop];omega
   rw [← hkd]
   refine Wc.mid ((base 9 140).on [(0,.osl 1 (l.map bV)),(2,.ptr 0 0 0),(3,.sl 1 0 0 kp.length none),(4,.gsl 1 (ts.map V.str) (some 7)),(5,.int .i64 (i:Int)),(7,.osl 4 (kd.map encD))]) (hp [.row 0 26 4 0 (some 1) [.agg [.int .i64 0,.str [],.int .i64 0,.nils]],.row 0 26 4 0 none (kp.map encD)]) ?_ ?_
   ·refine Wc.wn [(0,(.osl 1 (List.map bV l))),(2,(.ptr 0 0 0)),(3,(.sl 1 0 0 (Int.toNat ((List.length gs:Int)-(k:Int))) none)),(4,(.gsl 1 (List.map V.str ts) (some 7))),(5,(.int .i64 (i:Int))),(6,(.int .i64 (k:Int))),(7,(.osl 4 (List.map encD kd))),(42,(.int .u8 ((UInt8.toNat (List.getD l i 0):Int)%10))),(54,(.bool (decide ((UInt8.toNat (List.getD l i 0):Int)%10=2)))),(71,(.bool (decide ((UInt8.toNat (List.getD l i 0):Int)%10=4)))),(78,(.bool (decide ((UInt8.toNat (List.getD l i 0):Int)%10=5)))),(92,(.bool (decide ((UInt8.toNat (List.getD l i 0):Int)%10=6)))),(123,(.bool (decide ((UInt8.toNat (List.getD l i 0):Int)%10=7))))] (hp [.row 0 26 4 0 (some 1) [(.agg [(.int .i64 0),(.str []),(.int .i64 0),.nils])],.row 0 26 4 0 none (List.map encD gs)]) [(i64r ((List.length gs:Int)-(k:Int))),((0≤(List.length gs:Int)-(k:Int))∧((List.length gs:Int)-(k:Int)≤(List.length gs:Int)))] (.cons (by omega) (.cons (by omega) .nil)) ?_
    refine Vw.trans (Vw.gc (b:=(base 9 140)) [(0,false),(1,true)] [0,2,3,4,5,7] [(0,(.osl 1 (List.map bV l))),(2,(.ptr 0 0 0)),(3,(.sl 1 0 0 (Int.toNat ((List.length gs:Int)-(k:Int))) none)),(4,(.gsl 1 (List.map V.str ts) (some 7))),(5,(.int .i64 (i:Int))),(7,(.osl 4 (List.map encD kd)))] [(0,(.osl 1 (List.map bV l))),(2,(.ptr 0 0 0)),(3,(.sl 1 0 0 (Int.toNat ((List.length gs:Int)-(k:Int))) none)),(4,(.gsl 1 (List.map V.str ts) (some 7))),(5,(.int .i64 (i:Int))),(7,(.osl 4 (List.map encD kd)))] [.row 0 26 4 0 (some 1) [(.agg [(.int .i64 0),(.str []),(.int .i64 0),.nils])],.row 0 26 4 0 none (List.map encD gs)] ⟨rfl,rfl,rfl⟩ (by kernel_rfl) (by kernel_rfl) (by kernel_rfl) (by kernel_rfl) [(∀ (e:V),e∈List.map encD gs→x2 (x4 (3:Nat)) (V.cells e)=true),((0:Nat)=0),((0:Nat)=0)] (by kernel_rfl) (.cons (by exact x3 (fun _=>rfl) _) (.cons (by omega) (.cons (by omega) .nil)))) ?_
    have e1:Int.toNat ((↑(List.length gs):Int)-(↑k:Int))=kp.length:=by omega
    rw [e1]
    exact zi5 hkp
   refine Wc.enter ?_
   let v46:V:=(.agg [(.int .i64 0),(.str []),(.int .i64 0),.nils])
   let v47:Obj:=.row 0 26 4 0 (some 1) [v46]
   refine Wl.bn0 0 3 [(0,(.osl 1 (List.map bV l))),(2,(.ptr 0 0 0)),(3,(.sl 1 0 0 (List.length kp) none)),(4,(.gsl 1 (List.map V.str ts) (some 7))),(5,(.int .i64 (i:Int))),(7,(.osl 4 (List.map encD kd))),(132,(.sl 1 0 0 (List.length kp) none)),(134,(.agg [(.int .i64 7),(.str []),(.int .i64 0),(.osl 4 (List.map encD kd))]))] (hp [v47,.row 0 26 4 0 none (List.map encD kp)]) ?_
   refine Wl.c 3 [(135,(.agg [(.int .i64 6),(.str []),(.int .i64 0),(.osl 4 (esD (Dc.mk 6 [] 0 [Dc.mk 7 [] 0 kd])))]))] (@Go.AM.cFitO (kd)) ?_
   refine Wl.bn 4 7 [(3,(.sl 1 1 0 (List.length kp+List.length [V.agg [V.int .i64 6,V.str [],V.int .i64 0,V.osl 4 (esD (Dc.mk 6 [] 0 [Dc.mk 7 [] 0 kd]))]]) none))] (hp [v47,.row 1 26 4 0 none (List.map encD kp++[V.agg [V.int .i64 6,V.str [],V.int .i64 0,V.osl 4 (esD (Dc.mk 6 [] 0 [Dc.mk 7 [] 0 kd]))]])]) [(((0:Nat)=0)∧(([V.agg [V.int .i64 6,V.str [],V.int .i64 0,V.osl 4 (esD (Dc.mk 6 [] (0:Int) [Dc.mk 7 [] (0:Int) kd]))]]≠[])∧((List.length kp=List.length (List.map encD kp))∧(((0:Nat)≤List.length kp)∧((List.length kp+List.length [V.agg [V.int .i64 6,V.str [],V.int .i64 0,V.osl 4 (esD (Dc.mk 6 [] (0:Int) [Dc.mk 7 [] (0:Int) kd]))]]≤(1099511627776:Nat))∧((List.length kp+List.length [V.agg [V.int .i64 6,V.str [],V.int .i64 0,V.osl 4 (esD (Dc.mk 6 [] (0:Int) [Dc.mk 7 [] (0:Int) kd]))]])*56≤(1099511627776:Nat)))))))] (.cons (by exact ⟨rfl,by simp,by simp,by omega,by simp only [List.length_cons,List.length_nil];omega,by simp only [List.length_cons,List.length_nil];omega⟩) .nil) ?_
   refine Wl.dn 7 (Wc.w [(5,(.int .i64 ((i:Int)+2)))] [(i64r ((i:Int)+2))] (.cons (by omega) .nil) ?_)
   refine q29 kp ⟨6,[],0,[⟨7,[],0,kd⟩]⟩ (x:=encD ⟨6,[],0,[⟨7,[],0,kd⟩]⟩) ?_ rfl (.refl rfl) h2 (by omega) (by omega) (by rw [hstep,z07 _ _ _ (by omega) (by omega),← hk,← hkp,← hkd])
   exact Vw.gk [(0,false),(1,true)] [(∀ (e:V),e∈List.map encD kp++[V.agg [V.int .i64 6,V.str [],V.int .i64 0,V.osl 4 (esD (Dc.mk 6 [] (0:Int) [Dc.mk 7 [] (0:Int) kd]))]]→x2 (x4 3) (V.cells e)=true),(0=0),(1=1)] (.cons (by exact w6 (x3 (fun _=>rfl) _) (q63 rfl)) (.cons (by omega) (.cons (by omega) .nil)))
  refine Wc.w0 [(123,(.bool (decide ((UInt8.toNat (List.getD l i 0):Int)%10=8))))] ?_
  refine Wc.cq (p:=(UInt8.toNat (List.getD l i 0):Int)%10=8) (fun c14=>?_) (fun c14=>?_)
  ·refine Wc.seq ?_
   obtain ⟨kp,hkp⟩:∃ kp,kp=gs.take (gs.length-k):=⟨_,rfl⟩
   obtain ⟨kd,hkd⟩:∃ kd,kd=gs.drop (gs.length-k):=⟨_,rfl⟩
   have hkpl:kp.length=gs.length-k:=by rw [hkp,List.length_take];omega
   have hkdl:kd.length=k:=by rw [hkd,List.length_drop];omega
   rw [← hkd]
   refine Wc.mid ((base 9 140).on [(0,.osl 1 (l.map bV)),(2,.ptr 0 0 0),(3,.sl 1 0 0 kp.length none),(4,.gsl 1 (ts.map V.str) (some 7)),(5,.int .i64 (i:Int)),(7,.osl 4 (kd.map encD))]) (hp [.row 0 26 4 0 (some 1) [.agg [.int .i64 0,.str [],.int .i64 0,.nils]],.row 0 26 4 0 none (kp.map encD)]) ?_ ?_
   ·refine Wc.wn [(0,(.osl 1 (List.map bV l))),(2,(.ptr 0 0 0)),(3,(.sl 1 0 0 (Int.toNat ((List.length gs:Int)-(k:Int))) none)),(4,(.gsl 1 (List.map V.str ts) (some 7))),(5,(.int .i64 (i:Int))),(6,(.int .i64 (k:Int))),(7,(.osl 4 (List.map encD kd))),(42,(.int .u8 ((UInt8.toNat (List.getD l i 0):Int)%10))),(54,(.bool (decide ((UInt8.toNat (List.getD l i 0):Int)%10=2)))),(71,(.bool (decide ((UInt8.toNat (List.getD l i 0):Int)%10=4)))),(78,(.bool (decide ((UInt8.toNat (List.getD l i 0):Int)%10=5)))),(92,(.bool (decide ((UInt8.toNat (List.getD l i 0):Int)%10=6)))),(123,(.bool (decide ((UInt8.toNat (List.getD l i 0):Int)%10=8))))] (hp [.row 0 26 4 0 (some 1) [(.agg [(.int .i64 0),(.str []),(.int .i64 0),.nils])],.row 0 26 4 0 none (List.map encD gs)]) [(i64r ((List.length gs:Int)-(k:Int))),((0≤(List.length gs:Int)-(k:Int))∧((List.length gs:Int)-(k:Int)≤(List.length gs:Int)))] (.cons (by omega) (.cons (by omega) .nil)) ?_
    refine Vw.trans (Vw.gc (b:=(base 9 140)) [(0,false),(1,true)] [0,2,3,4,5,7] [(0,(.osl 1 (List.map bV l))),(2,(.ptr 0 0 0)),(3,(.sl 1 0 0 (Int.toNat ((List.length gs:Int)-(k:Int))) none)),(4,(.gsl 1 (List.map V.str ts) (some 7))),(5,(.int .i64 (i:Int))),(7,(.osl 4 (List.map encD kd)))] [(0,(.osl 1 (List.map bV l))),(2,(.ptr 0 0 0)),(3,(.sl 1 0 0 (Int.toNat ((List.length gs:Int)-(k:Int))) none)),(4,(.gsl 1 (List.map V.str ts) (some 7))),(5,(.int .i64 (i:Int))),(7,(.osl 4 (List.map encD kd)))] [.row 0 26 4 0 (some 1) [(.agg [(.int .i64 0),(.str []),(.int .i64 0),.nils])],.row 0 26 4 0 none (List.map encD gs)] ⟨rfl,rfl,rfl⟩ (by kernel_rfl) (by kernel_rfl) (by kernel_rfl) (by kernel_rfl) [(∀ (e:V),e∈List.map encD gs→x2 (x4 (3:Nat)) (V.cells e)=true),((0:Nat)=0),((0:Nat)=0)] (by kernel_rfl) (.cons (by exact x3 (fun _=>rfl) _) (.cons (by omega) (.cons (by omega) .nil)))) ?_
    have e1:Int.toNat ((↑(List.length gs):Int)-(↑k:Int))=kp.length:=by omega
    rw [e1]
    exact zi5 hkp
   refine Wc.enter ?_
   let v48:V:=(.agg [(.int .i64 0),(.str []),(.int .i64 0),.nils])
   let v49:Obj:=.row 0 26 4 0 (some 1) [v48]
   refine Wl.bn0 0 3 [(0,(.osl 1 (List.map bV l))),(2,(.ptr 0 0 0)),(3,(.sl 1 0 0 (List.length kp) none)),(4,(.gsl 1 (List.map V.str ts) (some 7))),(5,(.int .i64 (i:Int))),(7,(.osl 4 (List.map encD kd))),(132,(.sl 1 0 0 (List.length kp) none)),(134,(.agg [(.int .i64 7),(.str []),(.int .i64 0),(.osl 4 (List.map encD kd))]))] (hp [v49,.row 0 26 4 0 none (List.map encD kp)]) ?_
   refine Wl.c 3 [(135,(.agg [(.int .i64 6),(.str []),(.int .i64 0),(.osl 4 (esD (Dc.mk 6 [] 0 [Dc.mk 7 [] 0 kd])))]))] (@Go.AM.cFitO (kd)) ?_
   refine Wl.bn 4 7 [(3,(.sl 1 1 0 (List.length kp+List.length [V.agg [V.int .i64 6,V.str [],V.int .i64 0,V.osl 4 (esD (Dc.mk 6 [] 0 [Dc.mk 7 [] 0 kd]))]]) none))] (hp [v49,.row 1 26 4 0 none (List.map encD kp++[V.agg [V.int .i64 6,V.str [],V.int .i64 0,V.osl 4 (esD (Dc.mk 6 [] 0 [Dc.mk 7 [] 0 kd]))]])]) [(((0:Nat)=0)∧(([V.agg [V.int .i64 6,V.str [],V.int .i64 0,V.osl 4 (esD (Dc.mk 6 [] (0:Int) [Dc.mk 7 [] (0:Int) kd]))]]≠[])∧((List.length kp=List.length (List.map encD kp))∧(((0:Nat)≤List.length kp)∧((List.length kp+List.length [V.agg [V.int .i64 6,V.str [],V.int .i64 0,V.osl 4 (esD (Dc.mk 6 [] (0:Int) [Dc.mk 7 [] (0:Int) kd]))]]≤(1099511627776:Nat))∧((List.length kp+List.length [V.agg [V.int .i64 6,V.str [],V.int .i64 0,V.osl 4 (esD (Dc.mk 6 [] (0:Int) [Dc.mk 7 [] (0:Int) kd]))]])*56≤(1099511627776:Nat)))))))] (.cons (by exact ⟨rfl,by simp,by simp,by omega,by simp only [List.length_cons,List.length_nil];omega,by simp only [List.length_cons,List.length_nil];omega⟩) .nil) ?_
   refine Wl.dn 7 (Wc.w [(5,(.int .i64 ((i:Int)+2)))] [(i64r ((i:Int)+2))] (.cons (by omega) .nil) ?_)
   refine q29 kp ⟨6,[],0,[⟨7,[],0,kd⟩]⟩ (x:=encD ⟨6,[],0,[⟨7,[],0,kd⟩]⟩) ?_ rfl (.refl rfl) h2 (by omega) (by omega) (by rw [hstep,z07 _ _ _ (by omega) (by omega),← hk,← hkp,← hkd])
   exact Vw.gk [(0,false),(1,true)] [(∀ (e:V),e∈List.map encD kp++[V.agg [V.int .i64 6,V.str [],V.int .i64 0,V.osl 4 (esD (Dc.mk 6 [] (0:Int) [Dc.mk 7 [] (0:Int) kd]))]]→x2 (x4 3) (V.cells e)=true),(0=0),(1=1)] (.cons (by exact w6 (x3 (fun _=>rfl) _) (q63 rfl)) (.cons (by omega) (.cons (by omega) .nil)))
  refine Wc.seq ?_
  obtain ⟨kp,hkp⟩:∃ kp,kp=gs.take (gs.length-k):=⟨_,rfl⟩
  obtain ⟨kd,hkd⟩:∃ kd,kd=gs.drop (gs.length-k):=⟨_,rfl⟩
  have hkpl:kp.length=gs.length-k:=by rw [hkp,List.length_take];omega
  have hkdl:kd.length=k:=by rw [hkd,List.length_drop];omega
  rw [← hkd]
  refine Wc.mid ((base 9 140).on [(0,.osl 1 (l.map bV)),(2,.ptr 0 0 0),(3,.sl 1 0 0 kp.length none),(4,.gsl 1 (ts.map V.str) (some 7)),(5,.int .i64 (i:Int)),(7,.osl 4 (kd.map encD))]) (hp [.row 0 26 4 0 (some 1) [.agg [.int .i64 0,.str [],.int .i64 0,.nils]],.row 0 26 4 0 none (kp.map encD)]) ?_ ?_
  ·refine Wc.wn [(0,(.osl 1 (List.map bV l))),(2,(.ptr 0 0 0)),(3,(.sl 1 0 0 (Int.toNat ((List.length gs:Int)-(k:Int))) none)),(4,(.gsl 1 (List.map V.str ts) (some 7))),(5,(.int .i64 (i:Int))),(6,(.int .i64 (k:Int))),(7,(.osl 4 (List.map encD kd))),(42,(.int .u8 ((UInt8.toNat (List.getD l i 0):Int)%10))),(54,(.bool (decide ((UInt8.toNat (List.getD l i 0):Int)%10=2)))),(71,(.bool (decide ((UInt8.toNat (List.getD l i 0):Int)%10=4)))),(78,(.bool (decide ((UInt8.toNat (List.getD l i 0):Int)%10=5)))),(92,(.bool (decide ((UInt8.toNat (List.getD l i 0):Int)%10=6)))),(123,(.bool (decide ((UInt8.toNat (List.getD l i 0):Int)%10=8))))] (hp [.row 0 26 4 0 (some 1) [(.agg [(.int .i64 0),(.str []),(.int .i64 0),.nils])],.row 0 26 4 0 none (List.map encD gs)]) [(i64r ((List.length gs:Int)-(k:Int))),((0≤(List.length gs:Int)-(k:Int))∧((List.length gs:Int)-(k:Int)≤(List.length gs:Int)))] (.cons (by omega) (.cons (by omega) .nil)) ?_
   refine Vw.trans (Vw.gc (b:=(base 9 140)) [(0,false),(1,true)] [0,2,3,4,5,7] [(0,(.osl 1 (List.map bV l))),(2,(.ptr 0 0 0)),(3,(.sl 1 0 0 (Int.toNat ((List.length gs:Int)-(k:Int))) none)),(4,(.gsl 1 (List.map V.str ts) (some 7))),(5,(.int .i64 (i:Int))),(7,(.osl 4 (List.map encD kd)))] [(0,(.osl 1 (List.map bV l))),(2,(.ptr 0 0 0)),(3,(.sl 1 0 0 (Int.toNat ((List.length gs:Int)-(k:Int))) none)),(4,(.gsl 1 (List.map V.str ts) (some 7))),(5,(.int .i64 (i:Int))),(7,(.osl 4 (List.map encD kd)))] [.row 0 26 4 0 (some 1) [(.agg [(.int .i64 0),(.str []),(.int .i64 0),.nils])],.row 0 26 4 0 none (List.map encD gs)] ⟨rfl,rfl,rfl⟩ (by kernel_rfl) (by kernel_rfl) (by kernel_rfl) (by kernel_rfl) [(∀ (e:V),e∈List.map encD gs→x2 (x4 (3:Nat)) (V.cells e)=true),((0:Nat)=0),((0:Nat)=0)] (by kernel_rfl) (.cons (by exact x3 (fun _=>rfl) _) (.cons (by omega) (.cons (by omega) .nil)))) ?_
   have e1:Int.toNat ((↑(List.length gs):Int)-(↑k:Int))=kp.length:=by omega
   rw [e1]
   exact zi5 hkp
  refine Wc.enter ?_
  let v50:V:=(.agg [(.int .i64 0),(.str []),(.int .i64 0),.nils])
  let v51:Obj:=.row 0 26 4 0 (some 1) [v50]
  refine Wl.bn0 0 2 [(0,(.osl 1 (List.map bV l))),(2,(.ptr 0 0 0)),(3,(.sl 1 0 0 (List.length kp) none)),(4,(.gsl 1 (List.map V.str ts) (some 7))),(5,(.int .i64 (i:Int))),(7,(.osl 4 (List.map encD kd))),(49,(.sl 1 0 0 (List.length kp) none)),(50,(.osl 4 (List.map encD kd)))] (hp [v51,.row 0 26 4 0 none (List.map encD kp)]) ?_
  refine Wl.c 2 [(51,(.agg [(.int .i64 ((rowD kd).kind)),(.str ((rowD kd).text)),(.int .i64 ((rowD kd).n)),(.osl 4 (esD (rowD kd)))]))] (@Go.AM.cRowO (kd) (by omega)) ?_
  refine Wl.bn 3 6 [(3,(.sl 1 1 0 (List.length kp+List.length [V.agg [V.int .i64 (rowD kd).kind,V.str (rowD kd).text,V.int .i64 (rowD kd).n,V.osl 4 (esD (rowD kd))]]) none))] (hp [v51,.row 1 26 4 0 none (List.map encD kp++[V.agg [V.int .i64 (rowD kd).kind,V.str (rowD kd).text,V.int .i64 (rowD kd).n,V.osl 4 (esD (rowD kd))]])]) [(((0:Nat)=0)∧(([V.agg [V.int .i64 (rowD kd).kind,V.str (rowD kd).text,V.int .i64 (rowD kd).n,V.osl 4 (esD (rowD kd))]]≠[])∧((List.length kp=List.length (List.map encD kp))∧(((0:Nat)≤List.length kp)∧((List.length kp+List.length [V.agg [V.int .i64 (rowD kd).kind,V.str (rowD kd).text,V.int .i64 (rowD kd).n,V.osl 4 (esD (rowD kd))]]≤(1099511627776:Nat))∧((List.length kp+List.length [V.agg [V.int .i64 (rowD kd).kind,V.str (rowD kd).text,V.int .i64 (rowD kd).n,V.osl 4 (esD (rowD kd))]])*56≤(1099511627776:Nat)))))))] (.cons (by exact ⟨rfl,by simp,by simp,by omega,by simp only [List.length_cons,List.length_nil];omega,by simp only [List.length_cons,List.length_nil];omega⟩) .nil) ?_
  refine Wl.dn 6 (Wc.w [(5,(.int .i64 ((i:Int)+2)))] [(i64r ((i:Int)+2))] (.cons (by omega) .nil) ?_)
  refine q29 kp (rowD kd) (x:=encD (rowD kd)) ?_ rfl (.refl rfl) h2 (by omega) (by omega) (by rw [hstep,x00 _ _ _ (by omega),← hk,← hkp,← hkd])
  exact Vw.gk [(0,false),(1,true)] [(∀ (e:V),e∈List.map encD kp++[V.agg [V.int .i64 (rowD kd).kind,V.str (rowD kd).text,V.int .i64 (rowD kd).n,V.osl 4 (esD (rowD kd))]]→x2 (x4 3) (V.cells e)=true),(0=0),(1=1)] (.cons (by exact w6 (x3 (fun _=>rfl) _) (q63 rfl)) (.cons (by omega) (.cons (by omega) .nil)))
 refine Wc.exit (z8.here (Wc.seq ?_))
 have hdn:docN l=i/2:=by omega
 have hr:q82 l (docN l)=gs:=by rw [hdn,← hf]
 let v52:V:=(.gsl 4 (List.map encD gs) none)
 let v53:V:=(.bool (decide ((i:Int)+1<(List.length (List.map bV l):Int)∧(i:Int)<80)))
 refine Wc.view (Vw.pub (b:=(base 9 140)) 3 v18 v52 [0,2,3,4,5,17] [(0,(.osl 1 (List.map bV l))),(2,(.ptr 0 0 0)),(3,v52),(4,v19),(5,(.int .i64 (i:Int))),(17,v53)] (by kernel_rfl) (by kernel_rfl) (z99 (h:=v23) (r:=1) (ver:=0) (n:=(List.length gs)) (c:=none) (ty:=26) (sz:=4) (pb:=0) (cap:=none) (es:=(List.map encD gs)) (by kernel_rfl) (by simp) (zh5 (fun _ _=>rfl) _)) (by simp [lost]) (by kernel_rfl)) ?_
 refine Wc.wn0 [(0,(.osl 1 (List.map bV l))),(2,(.ptr 0 0 0)),(3,v52),(4,v19),(5,(.int .i64 (i:Int))),(17,v53)] (hp [.row 0 26 4 0 (some 1) [(.agg [(.int .i64 7),(.str []),(.int .i64 0),v52])],.row 0 26 4 (Nat.max 0 (Nat.add 0 (List.length gs))) none (List.map encD gs)]) ?_
 refine Wc.ret ?_
 refine retX.mk (.agg [(.int .i64 7),(.str []),(.int .i64 0),(.gsl 4 (List.map encD gs) none)]) ⟨rfl,rfl⟩ (by kernel_rfl) ?_
 exact ⟨.agg [.int .i64 7,.str [],.int .i64 0,.gsl 4 (gs.map encD) none],by kernel_rfl,by unfold qs0;rw [hr];exact zg9 rfl⟩
end Go.AM
namespace Go.AM
open Go.Proofs
set_option maxRecDepth 100000
set_option maxHeartbeats 4000000
theorem ldKid0 {h:Heap} (d:Dc) (hk:0<d.kids.length):load Tryd.prog h 26 (.gptr 4 (esD d) 0)=some (encD (d.kids.getD 0 dc0)):=ldKid d 0 hk
noncomputable def kidS (t:Th) (fl:Bool) (i:Nat):Fr:=(base 34 30).on [(1,.bool fl),(2,.ptr 0 0 0),(5,match i with | 0=>.nils | _+1=>.sl 1 0 0 i none),(10,.osl 4 (esD t.d)),(11,.int .i64 (t.d.kids.length:Int)),(12,.int .i64 (i:Int))]
noncomputable def kidH (t:Th) (fl:Bool) (i:Nat):Heap:=match i with | 0=>hp [.row 0 57 6 0 (some 1) [encT t]] | _+1=>hp [.row 0 57 6 0 (some 1) [encT t],.row 0 57 6 0 none (((z6 t fl).take i).map encT)]
theorem zk9 {t:Th} {fl:Bool} {i:Nat} (h:0<i):kidS t fl i=(base 34 30).on [(1,.bool fl),(2,.ptr 0 0 0),(5,.sl 1 0 0 i none),(10,.osl 4 (esD t.d)),(11,.int .i64 (t.d.kids.length:Int)),(12,.int .i64 (i:Int))]:=by
 cases i with
 | zero=>cases h
 | succ i=>rfl
theorem zk0 {t:Th} {fl:Bool} {i:Nat} (h:0<i):kidH t fl i=hp [.row 0 57 6 0 (some 1) [encT t],.row 0 57 6 0 none (((z6 t fl).take i).map encT)]:=by
 cases i with
 | zero=>cases h
 | succ i=>rfl
theorem qr9 {t:Th} {fl:Bool} {i:Nat} (hi:i<t.d.kids.length):(z6 t fl).take (i+1)=(z6 t fl).take i++[⟨t.d.kids.getD i dc0,fl,t.n+t.d.n⟩]:=by
 rw [List.take_add_one]
 congr 1
 unfold z6
 rw [List.getElem?_map,List.getElem?_eq_getElem hi,List.getD_eq_getElem?_getD,List.getElem?_eq_getElem hi];rfl
theorem cKids {t:Th} {fl:Bool} (hl:t.d.kids.length≤100000) (hn:-1000000000≤t.n+t.d.n∧t.n+t.d.n≤1000000000):Cp Tryd.prog EU 34 [encT t,.bool fl] (.osl 6 ((z6 t fl).map encT)):=by
 refine Cp.bodyG (fn:=Tryd.f34) Tryd.func34 rfl (by kernel_rfl) ?_
 refine Wc.seq (Wc.wn0 [(0,(.agg [(.int .i64 (t.d.kind)),(.str (t.d.text)),(.int .i64 (t.d.n)),(.osl 4 (esD t.d)),(.bool (t.flat)),(.int .i64 (t.n))])),(1,(.bool (fl))),(2,(.ptr 0 0 0)),(4,.nils)] (hp [.row 0 57 6 0 (some 1) [(.agg [(.int .i64 (t.d.kind)),(.str (t.d.text)),(.int .i64 (t.d.n)),(.osl 4 (esD t.d)),(.bool (t.flat)),(.int .i64 (t.n))])]]) ?_)
 refine Wc.seq (Wc.w0 [(5,.nils)] ?_)
 refine Wc.seq (Wc.seq (Wc.w0 [(10,(.osl 4 (esD t.d))),(11,(.int .i64 ((List.length (esD t.d):Int)))),(12,(.int .i64 0))] ?_))
 refine Wc.block ?_
 have hln:=qp2 t.d
 rw [hln]
 refine Wc.loopV (α:=Nat) (fun i=>kidS t fl i) (fun i=>kidH t fl i) (fun i=>i≤t.d.kids.length) (fun i=>t.d.kids.length-i) 0 (Vw.le (Le.on [1,2,5,10,11,12] (by kernel_rfl))) (Nat.zero_le _) ?_
 intro i hi
 have hkl:(z6 t fl).length=t.d.kids.length:=by unfold z6;rw [List.length_map]
 rcases Nat.eq_zero_or_pos i with h0 | h0
 ·subst h0
  change Wc Tryd.prog EU _ ((base 34 30).on [(1,.bool fl),(2,.ptr 0 0 0),(5,.nils),(10,.osl 4 (esD t.d)),(11,.int .i64 (t.d.kids.length:Int)),(12,.int .i64 ((0:Nat):Int))]) (hp [.row 0 57 6 0 (some 1) [encT t]]) _ _ _
  refine Wc.seq (Wc.wn0 [(1,(.bool (fl))),(2,(.ptr 0 0 0)),(5,.nils),(10,(.osl 4 (esD t.d))),(11,(.int .i64 ((List.length t.d.kids:Int)))),(12,(.int .i64 0)),(13,(.bool (decide (0<(List.length t.d.kids:Int)))))] (hp [.row 0 57 6 0 (some 1) [(encT t)]]) ?_)
  refine Wc.seq ?_
  refine Wc.cq (p:=0<(List.length t.d.kids:Int)) (fun c1=>?_) (fun c1=>?_)
  ·refine Wc.skip (Wc.seq (Wc.block (Wc.seq (Wc.enter (Wl.bs 0 1 [(14,(.gptr 4 (esD t.d) 0))] [(((0:Int)≤0)∧(0<(List.length (esD t.d):Int)))] (.cons (by omega) .nil) ?_)))))
   refine Wl.l 1 [(15,(.agg [(.int .i64 ((List.getD t.d.kids 0 dc0).kind)),(.str ((List.getD t.d.kids 0 dc0).text)),(.int .i64 ((List.getD t.d.kids 0 dc0).n)),(.osl 4 (esD (List.getD t.d.kids 0 dc0)))]))] (@Go.AM.ldKid0 (hp [Obj.row 0 57 6 0 (some 1) [encT t]]) (t.d) (by omega)) ?_
   refine Wl.bn0 2 4 [(7,(.ptr 1 0 0))] (hp [.row 0 57 6 0 (some 1) [(encT t)],.row 0 26 4 0 (some 1) [(.agg [(.int .i64 ((List.getD t.d.kids 0 dc0).kind)),(.str ((List.getD t.d.kids 0 dc0).text)),(.int .i64 ((List.getD t.d.kids 0 dc0).n)),(.osl 4 (esD (List.getD t.d.kids 0 dc0)))])]]) ?_
   refine Wl.dn 4 (Wc.wn [(5, (.sl 2 0 0 1 none))] (hp [.row 0 57 6 0 (some 1) [(encT t)], .row 0 26 4 0 (some 1) [(.agg [(.int .i64 ((List.getD t.d.kids 0 dc0).kind)), (.str ((List.getD t.d.kids 0 dc0).text)), (.int .i64 ((List.getD t.d.kids 0 dc0).n)), (.osl 4 (esD (List.getD t.d.kids 0 dc0)))])], .row 0 57 6 0 none [(.agg [(.int .i64 ((List.getD t.d.kids 0 dc0).kind)), (.str ((List.getD t.d.kids 0 dc0).text)), (.int .i64 ((List.getD t.d.kids 0 dc0).n)), (.osl 4 (esD (List.getD t.d.kids 0 dc0))), (.bool (fl)), (.int .i64 (t.n + t.d.n))])]]) [(((-9223372036854775808 : Int) ≤ t.n + t.d.n) ∧ (t.n + t.d.n ≤ (9223372036854775807 : Int))), (([V.agg (j1 (j1 (j1 [V.int .i64 0, V.str [], V.int .i64 0, V.nils, V.bool false, V.int .i64 0] #[Field.mk "d" (26 : Nat) (0 : Nat) false "" "subeditor/fit" (0 : Nat), Field.mk "flat" (4 : Nat) (4 : Nat) false "" "subeditor/fit" (56 : Nat), Field.mk "n" (3 : Nat) (5 : Nat) false "" "subeditor/fit" (64 : Nat)][(0 : Nat)].offset (V.cells (V.agg [V.int .i64 (List.getD t.d.kids (0 : Nat) dc0).kind, V.str (List.getD t.d.kids (0 : Nat) dc0).text, V.int .i64 (List.getD t.d.kids (0 : Nat) dc0).n, V.osl 4 (esD (List.getD t.d.kids (0 : Nat) dc0))]))) #[Field.mk "d" (26 : Nat) (0 : Nat) false "" "subeditor/fit" (0 : Nat), Field.mk "flat" (4 : Nat) (4 : Nat) false "" "subeditor/fit" (56 : Nat), Field.mk "n" (3 : Nat) (5 : Nat) false "" "subeditor/fit" (64 : Nat)][(1 : Nat)].offset (V.cells (V.bool fl))) #[Field.mk "d" (26 : Nat) (0 : Nat) false "" "subeditor/fit" (0 : Nat), Field.mk "flat" (4 : Nat) (4 : Nat) false "" "subeditor/fit" (56 : Nat), Field.mk "n" (3 : Nat) (5 : Nat) false "" "subeditor/fit" (64 : Nat)][(2 : Nat)].offset (V.cells (V.int .i64 (t.n + t.d.n))))] ≠ []) ∧ ((1 ≤ (1099511627776 : Nat)) ∧ (1 * 72 ≤ (1099511627776 : Nat))))] (.cons (by omega) (.cons (by simp) .nil)) ?_)
   refine Wc.w [(12,(.int .i64 1))] [(i64r (1:Int))] (.cons (by omega) .nil) ?_
   have hi':0<t.d.kids.length:=by omega
   refine ⟨0+1,?_,by omega,by omega⟩
   simp only [zk9 (show 0<0+1 by omega),zk0 (show 0<0+1 by omega)]
   rw [qr9 hi',List.take_zero,List.nil_append]
   exact Vw.gk [(0,false),(2,false)] [(0=0),(0=0)] (.cons (by omega) (.cons (by omega) .nil))
  refine Wc.exit (z8.here (Wc.seq ?_))
  have he:t.d.kids=[]:=List.eq_nil_of_length_eq_zero (by omega)
  refine Wc.w0 [(4,.nils)] ?_
  refine Wc.ret ?_
  refine retX.mk .nils ⟨rfl,rfl⟩ (by kernel_rfl) ?_
  exact ⟨.nils,rfl,by unfold z6;rw [he];exact .nils 6⟩
 simp only [zk9 h0,zk0 h0]
 have htl:((z6 t fl).take i).length=i:=by rw [List.length_take];omega
 generalize hts:(z6 t fl).take i=ts at *
 refine Wc.seq (Wc.wn0 [(1,(.bool (fl))),(2,(.ptr 0 0 0)),(5,(.sl 1 0 0 (i) none)),(10,(.osl 4 (esD t.d))),(11,(.int .i64 ((List.length t.d.kids:Int)))),(12,(.int .i64 (i:Int))),(13,(.bool (decide ((i:Int)<(List.length t.d.kids:Int)))))] (hp [.row 0 57 6 0 (some 1) [(encT t)],.row 0 57 6 0 none (List.map encT ts)]) ?_)
 refine Wc.seq ?_
 refine Wc.cq (p:=(i:Int)<(List.length t.d.kids:Int)) (fun c1=>?_) (fun c1=>?_)
 ·refine Wc.skip (Wc.seq (Wc.block (Wc.seq (Wc.enter (Wl.bs 0 1 [(14,(.gptr 4 (esD t.d) (i*4)))] [((0≤(i:Int))∧((i:Int)<(List.length (esD t.d):Int)))] (.cons (by omega) .nil) ?_)))))
  refine Wl.l 1 [(15,(.agg [(.int .i64 ((List.getD t.d.kids i dc0).kind)),(.str ((List.getD t.d.kids i dc0).text)),(.int .i64 ((List.getD t.d.kids i dc0).n)),(.osl 4 (esD (List.getD t.d.kids i dc0)))]))] (@Go.AM.ldKid (hp [Obj.row 0 57 6 0 (some 1) [encT t],Obj.row 0 57 6 0 none (List.map encT ts)]) (t.d) (i) (by omega)) ?_
  refine Wl.bn0 2 4 [(7,(.ptr 2 0 0))] (hp [.row 0 57 6 0 (some 1) [(encT t)],.row 0 57 6 0 none (List.map encT ts),.row 0 26 4 0 (some 1) [(.agg [(.int .i64 ((List.getD t.d.kids i dc0).kind)),(.str ((List.getD t.d.kids i dc0).text)),(.int .i64 ((List.getD t.d.kids i dc0).n)),(.osl 4 (esD (List.getD t.d.kids i dc0)))])]]) ?_
  refine Wl.dn 4 (Wc.wn [(5, (.sl 1 1 0 (i + List.length [V.agg (j1 (j1 (j1 [V.int .i64 0, V.str [], V.int .i64 0, V.nils, V.bool false, V.int .i64 0] #[Field.mk "d" 26 0 false "" "subeditor/fit" 0, Field.mk "flat" 4 4 false "" "subeditor/fit" 56, Field.mk "n" 3 5 false "" "subeditor/fit" 64][0].offset (V.cells (V.agg [V.int .i64 (List.getD t.d.kids i dc0).kind, V.str (List.getD t.d.kids i dc0).text, V.int .i64 (List.getD t.d.kids i dc0).n, V.osl 4 (esD (List.getD t.d.kids i dc0))]))) #[Field.mk "d" 26 0 false "" "subeditor/fit" 0, Field.mk "flat" 4 4 false "" "subeditor/fit" 56, Field.mk "n" 3 5 false "" "subeditor/fit" 64][1].offset (V.cells (V.bool fl))) #[Field.mk "d" 26 0 false "" "subeditor/fit" 0, Field.mk "flat" 4 4 false "" "subeditor/fit" 56, Field.mk "n" 3 5 false "" "subeditor/fit" 64][2].offset (V.cells (V.int .i64 (t.n + t.d.n))))]) none))] (hp [.row 0 57 6 0 (some 1) [(encT t)], .row 1 57 6 0 none (List.map encT ts ++ [V.agg (j1 (j1 (j1 [V.int .i64 0, V.str [], V.int .i64 0, V.nils, V.bool false, V.int .i64 0] #[Field.mk "d" 26 0 false "" "subeditor/fit" 0, Field.mk "flat" 4 4 false "" "subeditor/fit" 56, Field.mk "n" 3 5 false "" "subeditor/fit" 64][0].offset (V.cells (V.agg [V.int .i64 (List.getD t.d.kids i dc0).kind, V.str (List.getD t.d.kids i dc0).text, V.int .i64 (List.getD t.d.kids i dc0).n, V.osl 4 (esD (List.getD t.d.kids i dc0))]))) #[Field.mk "d" 26 0 false "" "subeditor/fit" 0, Field.mk "flat" 4 4 false "" "subeditor/fit" 56, Field.mk "n" 3 5 false "" "subeditor/fit" 64][1].offset (V.cells (V.bool fl))) #[Field.mk "d" 26 0 false "" "subeditor/fit" 0, Field.mk "flat" 4 4 false "" "subeditor/fit" 56, Field.mk "n" 3 5 false "" "subeditor/fit" 64][2].offset (V.cells (V.int .i64 (t.n + t.d.n))))]), .row 0 26 4 0 (some 1) [(.agg [(.int .i64 ((List.getD t.d.kids i dc0).kind)), (.str ((List.getD t.d.kids i dc0).text)), (.int .i64 ((List.getD t.d.kids i dc0).n)), (.osl 4 (esD (List.getD t.d.kids i dc0)))])]]) [(((-9223372036854775808 : Int) ≤ t.n + t.d.n) ∧ (t.n + t.d.n ≤ (9223372036854775807 : Int))), (((0 : Nat) = 0) ∧ (([V.agg (j1 (j1 (j1 [V.int .i64 0, V.str [], V.int .i64 0, V.nils, V.bool false, V.int .i64 0] #[Field.mk "d" (26 : Nat) (0 : Nat) false "" "subeditor/fit" (0 : Nat), Field.mk "flat" (4 : Nat) (4 : Nat) false "" "subeditor/fit" (56 : Nat), Field.mk "n" (3 : Nat) (5 : Nat) false "" "subeditor/fit" (64 : Nat)][(0 : Nat)].offset (V.cells (V.agg [V.int .i64 (List.getD t.d.kids i dc0).kind, V.str (List.getD t.d.kids i dc0).text, V.int .i64 (List.getD t.d.kids i dc0).n, V.osl 4 (esD (List.getD t.d.kids i dc0))]))) #[Field.mk "d" (26 : Nat) (0 : Nat) false "" "subeditor/fit" (0 : Nat), Field.mk "flat" (4 : Nat) (4 : Nat) false "" "subeditor/fit" (56 : Nat), Field.mk "n" (3 : Nat) (5 : Nat) false "" "subeditor/fit" (64 : Nat)][(1 : Nat)].offset (V.cells (V.bool fl))) #[Field.mk "d" (26 : Nat) (0 : Nat) false "" "subeditor/fit" (0 : Nat), Field.mk "flat" (4 : Nat) (4 : Nat) false "" "subeditor/fit" (56 : Nat), Field.mk "n" (3 : Nat) (5 : Nat) false "" "subeditor/fit" (64 : Nat)][(2 : Nat)].offset (V.cells (V.int .i64 (t.n + t.d.n))))] ≠ []) ∧ ((i = List.length (List.map encT ts)) ∧ (((0 : Nat) ≤ i) ∧ ((i + List.length [V.agg (j1 (j1 (j1 [V.int .i64 0, V.str [], V.int .i64 0, V.nils, V.bool false, V.int .i64 0] #[Field.mk "d" (26 : Nat) (0 : Nat) false "" "subeditor/fit" (0 : Nat), Field.mk "flat" (4 : Nat) (4 : Nat) false "" "subeditor/fit" (56 : Nat), Field.mk "n" (3 : Nat) (5 : Nat) false "" "subeditor/fit" (64 : Nat)][(0 : Nat)].offset (V.cells (V.agg [V.int .i64 (List.getD t.d.kids i dc0).kind, V.str (List.getD t.d.kids i dc0).text, V.int .i64 (List.getD t.d.kids i dc0).n, V.osl 4 (esD (List.getD t.d.kids i dc0))]))) #[Field.mk "d" (26 : Nat) (0 : Nat) false "" "subeditor/fit" (0 : Nat), Field.mk "flat" (4 : Nat) (4 : Nat) false "" "subeditor/fit" (56 : Nat), Field.mk "n" (3 : Nat) (5 : Nat) false "" "subeditor/fit" (64 : Nat)][(1 : Nat)].offset (V.cells (V.bool fl))) #[Field.mk "d" (26 : Nat) (0 : Nat) false "" "subeditor/fit" (0 : Nat), Field.mk "flat" (4 : Nat) (4 : Nat) false "" "subeditor/fit" (56 : Nat), Field.mk "n" (3 : Nat) (5 : Nat) false "" "subeditor/fit" (64 : Nat)][(2 : Nat)].offset (V.cells (V.int .i64 (t.n + t.d.n))))] ≤ (1099511627776 : Nat)) ∧ ((i + List.length [V.agg (j1 (j1 (j1 [V.int .i64 0, V.str [], V.int .i64 0, V.nils, V.bool false, V.int .i64 0] #[Field.mk "d" (26 : Nat) (0 : Nat) false "" "subeditor/fit" (0 : Nat), Field.mk "flat" (4 : Nat) (4 : Nat) false "" "subeditor/fit" (56 : Nat), Field.mk "n" (3 : Nat) (5 : Nat) false "" "subeditor/fit" (64 : Nat)][(0 : Nat)].offset (V.cells (V.agg [V.int .i64 (List.getD t.d.kids i dc0).kind, V.str (List.getD t.d.kids i dc0).text, V.int .i64 (List.getD t.d.kids i dc0).n, V.osl 4 (esD (List.getD t.d.kids i dc0))]))) #[Field.mk "d" (26 : Nat) (0 : Nat) false "" "subeditor/fit" (0 : Nat), Field.mk "flat" (4 : Nat) (4 : Nat) false "" "subeditor/fit" (56 : Nat), Field.mk "n" (3 : Nat) (5 : Nat) false "" "subeditor/fit" (64 : Nat)][(1 : Nat)].offset (V.cells (V.bool fl))) #[Field.mk "d" (26 : Nat) (0 : Nat) false "" "subeditor/fit" (0 : Nat), Field.mk "flat" (4 : Nat) (4 : Nat) false "" "subeditor/fit" (56 : Nat), Field.mk "n" (3 : Nat) (5 : Nat) false "" "subeditor/fit" (64 : Nat)][(2 : Nat)].offset (V.cells (V.int .i64 (t.n + t.d.n))))]) * 72 ≤ (1099511627776 : Nat)))))))] (.cons (by omega) (.cons (by exact ⟨rfl, by simp, by first | (simp; done) | (simp; omega), by omega, by simp only [List.length_cons, List.length_nil]; omega, by simp only [List.length_cons, List.length_nil]; omega⟩) .nil)) ?_)
  refine Wc.wn [(5,(.sl 1 1 0 (i+1) none)),(12,(.int .i64 ((i:Int)+1)))] (hp [.row 0 57 6 0 (some 1) [(encT t)],.row 1 57 6 0 none (List.map encT ts++[V.agg (j1 (j1 (j1 [V.int .i64 0,V.str [],V.int .i64 0,V.nils,V.bool false,V.int .i64 0] 0 (V.cells (V.agg [V.int .i64 (List.getD t.d.kids i dc0).kind,V.str (List.getD t.d.kids i dc0).text,V.int .i64 (List.getD t.d.kids i dc0).n,V.osl 4 (esD (List.getD t.d.kids i dc0))]))) 4 (V.cells (V.bool fl))) 5 (V.cells (V.int .i64 (t.n+t.d.n))))]),.row 0 26 4 0 (some 1) [(.agg [(.int .i64 ((List.getD t.d.kids i dc0).kind)),(.str ((List.getD t.d.kids i dc0).text)),(.int .i64 ((List.getD t.d.kids i dc0).n)),(.osl 4 (esD (List.getD t.d.kids i dc0)))])]]) [(i64r ((i:Int)+1))] (.cons (by omega) .nil) ?_
  have hi':i<t.d.kids.length:=by omega
  refine ⟨i+1,?_,by omega,by omega⟩
  simp only [zk9 (show 0<i+1 by omega),zk0 (show 0<i+1 by omega)]
  rw [qr9 hi',hts,List.map_append]
  exact Vw.gk [(0,false),(1,true)] [(∀ (e:V),e∈List.map encT ts++[V.agg (j1 (j1 (j1 [V.int .i64 0,V.str [],V.int .i64 0,V.nils,V.bool false,V.int .i64 0] (0:Nat) (V.cells (V.agg [V.int .i64 (List.getD t.d.kids i dc0).kind,V.str (List.getD t.d.kids i dc0).text,V.int .i64 (List.getD t.d.kids i dc0).n,V.osl 4 (esD (List.getD t.d.kids i dc0))]))) (4:Nat) (V.cells (V.bool fl))) (5:Nat) (V.cells (V.int .i64 (t.n+t.d.n))))]→x2 (x4 3) (V.cells e)=true),(0=0),(1=1)] (.cons (by exact w6 (x3 (fun _=>rfl) _) (q63 rfl)) (.cons (by omega) (.cons (by omega) .nil)))
 refine Wc.exit (z8.here (Wc.seq ?_))
 have he:i=t.d.kids.length:=by omega
 rw [List.take_of_length_le (by omega)] at hts
 subst hts
 refine Wc.wn0 [(1,(.bool (fl))),(2,(.ptr 0 0 0)),(4,(.sl 1 0 0 (i) none)),(5,(.sl 1 0 0 (i) none)),(10,(.osl 4 (esD t.d))),(11,(.int .i64 ((List.length t.d.kids:Int)))),(12,(.int .i64 (i:Int))),(13,(.bool (decide ((i:Int)<(List.length t.d.kids:Int)))))] (hp [.row 0 57 6 0 (some 1) [(encT t)],.row 0 57 6 0 none (List.map encT (z6 t fl))]) ?_
 refine Wc.ret ?_
 refine retX.mk (.sl 1 0 0 (i) none) ⟨rfl,rfl⟩ (by kernel_rfl) ?_
 exact ⟨_,q94 (f:=encT) (fun seen a h=>qq3 seen a h) (h:=hp [.row 0 57 6 0 (some 1) [encT t],.row 0 57 6 0 none (List.map encT (z6 t fl))]) (r:=1) (ver:=0) (n:=i) (ty:=57) (sz:=6) (pb:=0) (cap:=none) (l:=z6 t fl) (es:=List.map encT (z6 t fl)) (by kernel_rfl) rfl (by omega),.gsl⟩
end Go.AM
namespace Go.AM
open Go.Proofs
set_option maxRecDepth 100000
set_option maxHeartbeats 4000000
theorem xw9:q30 Tryd.prog 57=some true:=by kernel_rfl
theorem xw8:size Tryd.prog 57=6:=by kernel_rfl
theorem ldTh {h:Heap} (l:List Th) (k:Nat) (hk:k<l.length):load Tryd.prog h 57 (.gptr 6 (l.map encT) (k*6))=some (encT (l.getD k th0)) :=
 zd8 xw9 xw8 (by omega) (by rw [List.getElem?_map,List.getElem?_eq_getElem hk,List.getD_eq_getElem?_getD,List.getElem?_eq_getElem hk];rfl) rfl
theorem j86 {h:Heap} {r ver k pub:Nat} {cap:Option Nat} (l:List Th) (hr:h.get r=.row ver 57 6 pub cap (l.map encT)) (hk:k<l.length):load Tryd.prog h 57 (.ptr r ver (k*6))=some (encT (l.getD k th0)) :=
 x65 xw9 xw8 (by omega) hr (by rw [List.getElem?_map,List.getElem?_eq_getElem hk,List.getD_eq_getElem?_getD,List.getElem?_eq_getElem hk];rfl) rfl
theorem ldThP {h:Heap} {r ver k pub:Nat} {cap:Option Nat} (l:List Th) (hr:h.get r=.row ver 57 6 pub cap (l.map encT)) (hk:k<l.length):load Tryd.prog h 57 (.ptr r ver ((0+k)*6))=some (encT (l.getD k th0)):=by rw [Nat.zero_add];exact j86 l hr hk
theorem qe8 {ks:List Th} {j:Nat} (h:j<ks.length):ks.reverse.take (j+1)=ks.reverse.take j++[ks.getD (ks.length-1-j) th0]:=by
 rw [List.take_add_one]
 congr 1
 rw [List.getElem?_reverse h,List.getD_eq_getElem?_getD,List.getElem?_eq_getElem (by omega)];rfl
end Go.AM
namespace Go.AM
open Go.Proofs
set_option maxRecDepth 100000
set_option maxHeartbeats 4000000
theorem c45 (s:List UInt8):Cp Tryd.prog EU 82 [.str s,.int .u8 10] (.int .i64 (z0 10 s 0)) :=
 Cp.ext (fn:=Tryd.f82) Tryd.func82 rfl (h:=Heap.empty) (v:=.int .i64 (z0 10 s 0)) (by kernel_rfl) rfl
theorem c40 (s:List UInt8):Cp Tryd.prog EU 77 [.str s,.int .u8 10] (.int .i64 (z0 10 s 0)):=by
 refine Cp.body (fn:=Tryd.f77) Tryd.func77 rfl (by kernel_rfl) ?_
 refine Wc.seq (Wc.wn0 [(0,(.str s)),(1,(.int .u8 10)),(4,(.int .i64 0))] Heap.empty ?_)
 refine Wc.seq (Wc.enter (Wl.b0 0 2 [(5,(.str s)),(6,(.int .u8 10))] ?_))
 refine Wl.c 2 [(7,(.int .i64 (z0 10 s 0)))] (@Go.AM.c45 (s)) ?_
 refine Wl.b0 3 4 [(4,(.int .i64 (z0 10 s 0)))] ?_
 refine Wl.dn 4 (Wc.ret ?_)
 refine retX.mk (.int .i64 (z0 10 s 0)) ⟨rfl,rfl⟩ (by kernel_rfl) ?_
 kernel_rfl
theorem c35 (s:List UInt8):Cp Tryd.prog EU 70 [.str s,.str [10]] (.int .i64 (z0 10 s 0)):=by
 refine Cp.body (fn:=Tryd.f70) Tryd.func70 rfl (by kernel_rfl) ?_
 refine Wc.seq (Wc.wn0 [(0,(.str s)),(1,(.str [10])),(4,(.int .i64 0))] Heap.empty ?_)
 refine Wc.seq (Wc.w0 [(5,(.int .i64 1))] ?_)
 refine Wc.seq (Wc.block (Wc.seq (Wc.w0 [(16,(.bool (decide ([10]=s))))] ?_)))
 refine Wc.cq (p:=[10]=s) (fun c1=>?_) (fun c1=>?_)
 ·refine Wc.seq (Wc.w0 [] ?_)
  refine Wc.ret (z8.ret ?_)
  refine retX.mk (.int .i64 0) ⟨rfl,rfl⟩ (by kernel_rfl) ?_
  subst c1;kernel_rfl
 refine Wc.seq (Wc.w0 [(24,(.bool true))] ?_)
 refine Wc.ct (Wc.seq (Wc.enter (Wl.bs 0 3 [(27,(.str s)),(29,(.int .u8 10))] [(((0:Int)≤0)∧((0:Int)<1))] (.cons (by omega) .nil) ?_)))
 refine Wl.c 3 [(30,(.int .i64 (z0 10 s 0)))] (@Go.AM.c40 (s)) ?_
 refine Wl.b0 4 5 [(4,(.int .i64 (z0 10 s 0)))] ?_
 refine Wl.dn 5 (Wc.ret (z8.ret ?_))
 refine retX.mk (.int .i64 (z0 10 s 0)) ⟨rfl,rfl⟩ (by kernel_rfl) ?_
 rfl
theorem c29 (s:List UInt8):Cp Tryd.prog EU 73 [.str s,.str [10]] (.int .i64 (z0 10 s 0)):=by
 refine Cp.body (fn:=Tryd.f73) Tryd.func73 rfl (by kernel_rfl) ?_
 refine Wc.seq (Wc.wn0 [(0,(.str s)),(1,(.str [10])),(4,(.int .i64 0))] Heap.empty ?_)
 refine Wc.seq (Wc.enter (Wl.b0 0 2 [(5,(.str s)),(6,(.str [10]))] ?_))
 refine Wl.c 2 [(7,(.int .i64 (z0 10 s 0)))] (@Go.AM.c35 (s)) ?_
 refine Wl.b0 3 4 [(4,(.int .i64 (z0 10 s 0)))] ?_
 refine Wl.dn 4 (Wc.ret ?_)
 refine retX.mk (.int .i64 (z0 10 s 0)) ⟨rfl,rfl⟩ (by kernel_rfl) ?_
 kernel_rfl
theorem c30 (s:List UInt8) (hs:s.length≤1099511627776):Cp Tryd.prog EU 63 [.str s,.int .u8 10] (.int .i64 (j6 10 s)):=by
 refine Cp.body (fn:=Tryd.f63) Tryd.func63 rfl (by kernel_rfl) ?_
 refine Wc.seq (Wc.wn0 [(0,(.str s)),(1,(.int .u8 10)),(4,(.int .i64 0))] Heap.empty ?_)
 refine Wc.seq (Wc.seq (Wc.w [(5,(.int .i64 ((List.length s:Int)-1)))] [((-9223372036854775808≤(List.length s:Int)-1)∧((List.length s:Int)-1≤9223372036854775807))] (.cons (by omega) .nil) ?_))
 refine Wc.block ?_
 refine Wc.loop (α:=Nat) (fun k=>(base 63 19).on [(0,.str s),(1,.int .u8 10),(4,.int .i64 0),(5,.int .i64 ((k:Int)-1))]) (fun _=>Heap.empty) (fun k=>k≤s.length∧j6 10 s=j6 10 (s.take k)) (fun k=>k) s.length Le.refl rfl ⟨Nat.le_refl _,by rw [List.take_length]⟩ ?_
 rintro k ⟨hk,hl⟩
 refine Wc.seq (Wc.seq (Wc.wn0 [(0,(.str s)),(1,(.int .u8 10)),(4,(.int .i64 0)),(5,(.int .i64 ((k:Int)-1))),(10,(.bool (decide (0≤(k:Int)-1))))] Heap.empty ?_))
 refine Wc.cq (p:=0≤(k:Int)-1) (fun c1=>?_) (fun c1=>?_)
 ·refine Wc.skip (Wc.seq (Wc.block (Wc.seq (Wc.w [(17,(.bool (decide (q8 s ((k:Int)-1)=10))))] [((0≤(k:Int)-1)∧((k:Int)-1<(List.length s:Int)))] (.cons (by omega) .nil) ?_))))
  refine Wc.cq (p:=q8 s ((k:Int)-1)=10) (fun c2=>?_) (fun c2=>?_)
  ·refine Wc.seq (Wc.w0 [(4,(.int .i64 ((k:Int)-1)))] ?_)
   refine Wc.ret (z8.ret ?_)
   refine z8.ret ?_
   refine retX.mk (.int .i64 ((k:Int)-1)) ⟨rfl,rfl⟩ (by kernel_rfl) ?_
   refine congrArg (fun x=>some (V.int .i64 x)) ?_
   rw [hl,x32 (by omega) hk (by assumption)]
  refine Wc.skip (Wc.w [(5,(.int .i64 ((k:Int)-1-1)))] [(i64r ((k:Int)-1-1))] (.cons (by omega) .nil) ?_)
  refine ⟨k-1,?_,rfl,⟨by omega,by rw [hl,xn5 (by omega) hk (by assumption)]⟩,by omega⟩
  rw [show ((k-1:Nat):Int)-1=(k:Int)-1-1 by omega]
  exact Le.on [0,1,4,5] (by kernel_rfl)
 refine Wc.exit (z8.here (Wc.seq (Wc.w0 [(4,(.int .i64 (-1)))] ?_)))
 refine Wc.ret ?_
 refine retX.mk (.int .i64 (-1)) ⟨rfl,rfl⟩ (by kernel_rfl) ?_
 refine congrArg (fun x=>some (V.int .i64 x)) ?_
 have:k=0:=by omega
 subst this
 rw [hl];rfl
theorem c18 (s:List UInt8) (hs:s.length≤1099511627776):Cp Tryd.prog EU 51 [.str s,.str [10]] (.int .i64 (j6 10 s)):=by
 refine Cp.body (fn:=Tryd.f51) Tryd.func51 rfl (by kernel_rfl) ?_
 refine Wc.seq (Wc.wn0 [(0,(.str s)),(1,(.str [10])),(4,(.int .i64 0))] Heap.empty ?_)
 refine Wc.seq (Wc.w0 [(5,(.int .i64 1))] ?_)
 refine Wc.seq (Wc.block (Wc.seq (Wc.w0 [(8,(.bool false))] ?_)))
 refine Wc.cf (Wc.seq (Wc.w0 [(13,(.bool true))] ?_))
 refine Wc.ct (Wc.seq (Wc.enter (Wl.bs 0 3 [(16,(.str s)),(18,(.int .u8 10))] [(((0:Int)≤0)∧((0:Int)<1))] (.cons (by omega) .nil) ?_)))
 refine Wl.c 3 [(19,(.int .i64 (j6 10 s)))] (@Go.AM.c30 (s) (by assumption)) ?_
 refine Wl.b0 4 5 [(4,(.int .i64 (j6 10 s)))] ?_
 refine Wl.dn 5 (Wc.ret (z8.ret ?_))
 refine retX.mk (.int .i64 (j6 10 s)) ⟨rfl,rfl⟩ (by kernel_rfl) ?_
 kernel_rfl
theorem c16 (s:List UInt8) (hs:s.length≤1099511627776):Cp Tryd.prog EU 28 [.str s] (.int .i64 ((wide s:Nat):Int)):=by
 refine Cp.body (fn:=Tryd.f28) Tryd.func28 rfl (by kernel_rfl) ?_
 refine Wc.seq (Wc.wn0 [(0,(.str s)),(2,(.int .i64 0))] Heap.empty ?_)
 refine Wc.seq (Wc.w0 [(3,(.int .i64 0))] ?_)
 refine Wc.seq (Wc.seq (Wc.wn0 [(5,(.iter 0))] (hp [.siter (s) 0]) ?_))
 refine Wc.block ?_
 refine Wc.loop (α:=Nat×Nat) (fun a=>(base 28 11).on [(0,.str s),(2,.int .i64 0),(3,.int .i64 (a.2:Int)),(5,.iter 0)]) (fun a=>hp [.siter s a.1]) (fun a=>a.1≤s.length∧a.2≤a.1∧wide s=a.2+wide (s.drop a.1)) (fun a=>s.length-a.1) (0,0) Le.refl rfl ⟨Nat.zero_le _,Nat.le_refl _,by rw [List.drop_zero,Nat.zero_add]⟩ ?_
 rintro ⟨p,n⟩ ⟨hq,hn,hw⟩
 simp only at hq hn hw ⊢
 refine Wc.seq (Wc.enter ?_)
 refine Wl.next (b:=(base 28 11)) (d:=(some 6)) 0 0 (s) (p) (hp [.siter (s) (p+qe4 s p)]) [0,2,3,5,6] [(0,(.str s)),(2,(.int .i64 0)),(3,(.int .i64 (n:Int))),(5,(.iter 0)),(6,(.tup [(.bool true),(.int .i64 (p:Int)),(.int .i32 ((zy2 s p:Int)))]))] [(0,(.str s)),(2,(.int .i64 0)),(3,(.int .i64 (n:Int))),(5,(.iter 0)),(6,(.tup [(.bool false)]))] (by kernel_rfl) (by kernel_rfl) (by kernel_rfl) (by kernel_rfl) (fun c1=>?_) (fun c1=>?_)
 ·refine Wl.bn0 1 2 [(0,(.str s)),(2,(.int .i64 0)),(3,(.int .i64 (n:Int))),(5,(.iter 0)),(7,(.bool true))] (hp [.siter (s) (p+qe4 s p)]) ?_
  refine Wl.dn 2 (Wc.seq (Wc.ct (Wc.skip (Wc.block (Wc.w [(3,(.int .i64 ((n:Int)+1)))] [(i64r ((n:Int)+1))] (.cons (by omega) .nil) ?_)))))
  have h1:=j26 c1
  refine ⟨(p+qe4 s p,n+1),Le.on [0,2,3,5] (by kernel_rfl),rfl,⟨h1.1,by show n+1≤p+qe4 s p;omega,?_⟩,by show s.length-(p+qe4 s p)<s.length-p;omega⟩
  show wide s=n+1+wide (s.drop (p+qe4 s p))
  rw [hw,xn4 c1];omega
 refine Wl.bn0 1 2 [(0,(.str s)),(2,(.int .i64 0)),(3,(.int .i64 (n:Int))),(5,(.iter 0)),(7,(.bool false))] (hp [.siter (s) (p)]) ?_
 refine Wl.dn 2 (Wc.seq (Wc.cf (Wc.exit (z8.here (Wc.seq (Wc.w0 [(2,(.int .i64 (n:Int)))] ?_))))))
 refine Wc.ret ?_
 refine retX.mk (.int .i64 (n:Int)) ⟨rfl,rfl⟩ (by kernel_rfl) ?_
 refine congrArg (fun x=>some (V.int .i64 x)) ?_
 rw [hw,List.drop_eq_nil_of_le (by omega),z06];rfl
end Go.AM
namespace Go.AM
open Go.Proofs
set_option maxRecDepth 100000
set_option maxHeartbeats 4000000
def q44 (b:Int):Int:=if b<128 then 0 else if 194≤b∧b≤223 then 1 else if 224≤b∧b≤239 then 2 else if 240≤b∧b≤244 then 3 else -1
theorem c39 (b:Int):Cp Tryd.prog EU 59 [.int .u8 b] (.int .i64 (q44 b)):=by
 refine Cp.body (fn:=Tryd.f59) Tryd.func59 rfl (by kernel_rfl) ?_
 by_cases a1:b<128
 ·refine Wc.seq (Wc.wn0 [(0,(.int .u8 (b))),(2,(.int .i64 0))] Heap.empty ?_)
  refine Wc.seq (Wc.seq (Wc.w0 [(4,(.bool (decide (b<128))))] ?_))
  refine Wc.cq (p:=b<128) (fun c1=>?_) (fun c1=>absurd (show b<128 from (by with_reducible assumption)) c1)
  refine Wc.seq (Wc.w0 [] ?_)
  refine Wc.ret ?_
  refine retX.mk (.int .i64 0) ⟨rfl,rfl⟩ (by kernel_rfl) ?_
  refine congrArg (fun x=>some (V.int .i64 x)) ?_
  unfold q44
  repeat' split
  all_goals omega
 by_cases a2:194≤b
 ·by_cases a3:b≤223
  ·refine Wc.seq (Wc.wn0 [(0,(.int .u8 (b))),(2,(.int .i64 0))] Heap.empty ?_)
   refine Wc.seq (Wc.seq (Wc.w0 [(4,(.bool (decide (b<128))))] ?_))
   refine Wc.cq (p:=b<128) (fun c1=>absurd c1 (show ¬ (b<128) from (by with_reducible assumption))) (fun c1=>?_)
   refine Wc.skip (Wc.seq (Wc.seq (Wc.enter (Wl.b0 0 3 [(7,(.bool (decide (194≤b))))] ?_))))
   refine Wl.k 7 (.bool (decide (194≤b))) (.bool true) (by have e:=decide_eq_true (show 194≤b from (by with_reducible assumption));rw [e] <;> rfl) ?_
   refine Wl.b0 3 6 [(10,(.bool (decide (b≤223))))] ?_
   refine Wl.dn 6 ?_
   refine Wc.cq (p:=b≤223) (fun c3=>?_) (fun c3=>absurd (show b≤223 from (by with_reducible assumption)) c3)
   refine Wc.seq (Wc.w0 [(2,(.int .i64 1))] ?_)
   refine Wc.ret ?_
   refine retX.mk (.int .i64 1) ⟨rfl,rfl⟩ (by kernel_rfl) ?_
   refine congrArg (fun x=>some (V.int .i64 x)) ?_
   unfold q44
   repeat' split
   all_goals omega
  by_cases a4:224≤b
  ·by_cases a5:b≤239
   ·refine Wc.seq (Wc.wn0 [(0,(.int .u8 (b))),(2,(.int .i64 0))] Heap.empty ?_)
    refine Wc.seq (Wc.seq (Wc.w0 [(4,(.bool (decide (b<128))))] ?_))
    refine Wc.cq (p:=b<128) (fun c1=>absurd c1 (show ¬ (b<128) from (by with_reducible assumption))) (fun c1=>?_)
    refine Wc.skip (Wc.seq (Wc.seq (Wc.enter (Wl.b0 0 3 [(7,(.bool (decide (194≤b))))] ?_))))
    refine Wl.k 7 (.bool (decide (194≤b))) (.bool true) (by have e:=decide_eq_true (show 194≤b from (by with_reducible assumption));rw [e] <;> rfl) ?_
    refine Wl.b0 3 6 [(10,(.bool (decide (b≤223))))] ?_
    refine Wl.dn 6 ?_
    refine Wc.cq (p:=b≤223) (fun c3=>absurd c3 (show ¬ (b≤223) from (by with_reducible assumption))) (fun c3=>?_)
    refine Wc.skip (Wc.seq (Wc.seq (Wc.enter (Wl.b0 0 3 [(13,(.bool (decide (224≤b))))] ?_))))
    refine Wl.k 13 (.bool (decide (224≤b))) (.bool true) (by have e:=decide_eq_true (show 224≤b from (by with_reducible assumption));rw [e] <;> rfl) ?_
    refine Wl.b0 3 6 [(16,(.bool (decide (b≤239))))] ?_
    refine Wl.dn 6 ?_
    refine Wc.cq (p:=b≤239) (fun c5=>?_) (fun c5=>absurd (show b≤239 from (by with_reducible assumption)) c5)
    refine Wc.seq (Wc.w0 [(2,(.int .i64 2))] ?_)
    refine Wc.ret ?_
    refine retX.mk (.int .i64 2) ⟨rfl,rfl⟩ (by kernel_rfl) ?_
    refine congrArg (fun x=>some (V.int .i64 x)) ?_
    unfold q44
    repeat' split
    all_goals omega
   by_cases a6:b≤244
   ·refine Wc.seq (Wc.wn0 [(0,(.int .u8 (b))),(2,(.int .i64 0))] Heap.empty ?_)
    refine Wc.seq (Wc.seq (Wc.w0 [(4,(.bool (decide (b<128))))] ?_))
    refine Wc.cq (p:=b<128) (fun c1=>absurd c1 (show ¬ (b<128) from (by with_reducible assumption))) (fun c1=>?_)
    refine Wc.skip (Wc.seq (Wc.seq (Wc.enter (Wl.b0 0 3 [(7,(.bool (decide (194≤b))))] ?_))))
    refine Wl.k 7 (.bool (decide (194≤b))) (.bool true) (by have e:=decide_eq_true (show 194≤b from (by with_reducible assumption));rw [e] <;> rfl) ?_
    refine Wl.b0 3 6 [(10,(.bool (decide (b≤223))))] ?_
    refine Wl.dn 6 ?_
    refine Wc.cq (p:=b≤223) (fun c3=>absurd c3 (show ¬ (b≤223) from (by with_reducible assumption))) (fun c3=>?_)
    refine Wc.skip (Wc.seq (Wc.seq (Wc.enter (Wl.b0 0 3 [(13,(.bool (decide (224≤b))))] ?_))))
    refine Wl.k 13 (.bool (decide (224≤b))) (.bool true) (by have e:=decide_eq_true (show 224≤b from (by with_reducible assumption));rw [e] <;> rfl) ?_
    refine Wl.b0 3 6 [(16,(.bool (decide (b≤239))))] ?_
    refine Wl.dn 6 ?_
    refine Wc.cq (p:=b≤239) (fun c5=>absurd c5 (show ¬ (b≤239) from (by with_reducible assumption))) (fun c5=>?_)
    refine Wc.skip (Wc.seq (Wc.seq (Wc.enter (Wl.b0 0 3 [(19,(.bool (decide (240≤b))))] ?_))))
    refine Wl.k 19 (.bool (decide (240≤b))) (.bool true) (by have e:=decide_eq_true (show 240≤b from (by omega));rw [e] <;> rfl) ?_
    refine Wl.b0 3 6 [(22,(.bool (decide (b≤244))))] ?_
    refine Wl.dn 6 ?_
    refine Wc.cq (p:=b≤244) (fun c7=>?_) (fun c7=>absurd (show b≤244 from (by with_reducible assumption)) c7)
    refine Wc.seq (Wc.w0 [(2,(.int .i64 3))] ?_)
    refine Wc.ret ?_
    refine retX.mk (.int .i64 3) ⟨rfl,rfl⟩ (by kernel_rfl) ?_
    refine congrArg (fun x=>some (V.int .i64 x)) ?_
    unfold q44
    repeat' split
    all_goals omega
   refine Wc.seq (Wc.wn0 [(0,(.int .u8 (b))),(2,(.int .i64 0))] Heap.empty ?_)
   refine Wc.seq (Wc.seq (Wc.w0 [(4,(.bool (decide (b<128))))] ?_))
   refine Wc.cq (p:=b<128) (fun c1=>absurd c1 (show ¬ (b<128) from (by with_reducible assumption))) (fun c1=>?_)
   refine Wc.skip (Wc.seq (Wc.seq (Wc.enter (Wl.b0 0 3 [(7,(.bool (decide (194≤b))))] ?_))))
   refine Wl.k 7 (.bool (decide (194≤b))) (.bool true) (by have e:=decide_eq_true (show 194≤b from (by with_reducible assumption));rw [e] <;> rfl) ?_
   refine Wl.b0 3 6 [(10,(.bool (decide (b≤223))))] ?_
   refine Wl.dn 6 ?_
   refine Wc.cq (p:=b≤223) (fun c3=>absurd c3 (show ¬ (b≤223) from (by with_reducible assumption))) (fun c3=>?_)
   refine Wc.skip (Wc.seq (Wc.seq (Wc.enter (Wl.b0 0 3 [(13,(.bool (decide (224≤b))))] ?_))))
   refine Wl.k 13 (.bool (decide (224≤b))) (.bool true) (by have e:=decide_eq_true (show 224≤b from (by with_reducible assumption));rw [e] <;> rfl) ?_
   refine Wl.b0 3 6 [(16,(.bool (decide (b≤239))))] ?_
   refine Wl.dn 6 ?_
   refine Wc.cq (p:=b≤239) (fun c5=>absurd c5 (show ¬ (b≤239) from (by with_reducible assumption))) (fun c5=>?_)
   refine Wc.skip (Wc.seq (Wc.seq (Wc.enter (Wl.b0 0 3 [(19,(.bool (decide (240≤b))))] ?_))))
   refine Wl.k 19 (.bool (decide (240≤b))) (.bool true) (by have e:=decide_eq_true (show 240≤b from (by omega));rw [e] <;> rfl) ?_
   refine Wl.b0 3 6 [(22,(.bool (decide (b≤244))))] ?_
   refine Wl.dn 6 ?_
   refine Wc.cq (p:=b≤244) (fun c7=>absurd c7 (show ¬ (b≤244) from (by with_reducible assumption))) (fun c7=>?_)
   refine Wc.skip (Wc.seq (Wc.w0 [(2,(.int .i64 (-1)))] ?_))
   refine Wc.ret ?_
   refine retX.mk (.int .i64 (-1)) ⟨rfl,rfl⟩ (by kernel_rfl) ?_
   refine congrArg (fun x=>some (V.int .i64 x)) ?_
   unfold q44
   repeat' split
   all_goals omega
  omega
 refine Wc.seq (Wc.wn0 [(0,(.int .u8 (b))),(2,(.int .i64 0))] Heap.empty ?_)
 refine Wc.seq (Wc.seq (Wc.w0 [(4,(.bool (decide (b<128))))] ?_))
 refine Wc.cq (p:=b<128) (fun c1=>absurd c1 (show ¬ (b<128) from (by with_reducible assumption))) (fun c1=>?_)
 refine Wc.skip (Wc.seq (Wc.seq (Wc.enter (Wl.b0 0 3 [(7,(.bool (decide (194≤b))))] ?_))))
 refine Wl.k 7 (.bool (decide (194≤b))) (.bool false) (by have e:=decide_eq_false (show ¬ (194≤b) from (by with_reducible assumption));rw [e] <;> rfl) ?_
 refine Wl.b0 3 6 [(10,(.bool false))] ?_
 refine Wl.dn 6 (Wc.cf (Wc.skip (Wc.seq (Wc.seq (Wc.enter (Wl.b0 0 3 [(13,(.bool (decide (224≤b))))] ?_))))))
 refine Wl.k 13 (.bool (decide (224≤b))) (.bool false) (by have e:=decide_eq_false (show ¬ (224≤b) from (by omega));rw [e] <;> rfl) ?_
 refine Wl.b0 3 6 [(16,(.bool false))] ?_
 refine Wl.dn 6 (Wc.cf (Wc.skip (Wc.seq (Wc.seq (Wc.enter (Wl.b0 0 3 [(19,(.bool (decide (240≤b))))] ?_))))))
 refine Wl.k 19 (.bool (decide (240≤b))) (.bool false) (by have e:=decide_eq_false (show ¬ (240≤b) from (by omega));rw [e] <;> rfl) ?_
 refine Wl.b0 3 6 [(22,(.bool false))] ?_
 refine Wl.dn 6 (Wc.cf (Wc.skip (Wc.seq (Wc.w0 [(2,(.int .i64 (-1)))] ?_))))
 refine Wc.ret ?_
 refine retX.mk (.int .i64 (-1)) ⟨rfl,rfl⟩ (by kernel_rfl) ?_
 refine congrArg (fun x=>some (V.int .i64 x)) ?_
 unfold q44
 repeat' split
 all_goals omega
theorem j69:Cp Tryd.prog EU 40 [.str []] (.int .i64 0):=by
 refine Cp.body (fn:=Tryd.f40) Tryd.func40 rfl (by kernel_rfl) ?_
 refine Wc.seq (Wc.wn0 [(0,(.str [])),(2,(.int .i64 0))] Heap.empty ?_)
 refine Wc.seq (Wc.seq (Wc.w0 [(22,(.bool true))] ?_))
 refine Wc.ct (Wc.seq (Wc.w0 [] ?_))
 refine Wc.ret ?_
 refine retX.mk (.int .i64 0) ⟨rfl,rfl⟩ (by kernel_rfl) ?_
 kernel_rfl
theorem j21 (s:List UInt8) (hs:s≠[]) (hn:q44 (q8 s 0)=-1):Cp Tryd.prog EU 40 [.str s] (.int .i64 0):=by
 have h0:0<s.length:=List.length_pos_iff.2 hs
 have hs':¬ s=[]:=hs
 have hc:=c39 (q8 s 0)
 rw [hn] at hc
 refine Cp.body (fn:=Tryd.f40) Tryd.func40 rfl (by kernel_rfl) ?_
 refine Wc.seq (Wc.wn0 [(0,(.str s)),(2,(.int .i64 0))] Heap.empty ?_)
 refine Wc.seq (Wc.seq (Wc.enter (Wl.b0 0 3 [(9,(.bool (decide (s=[]))))] ?_)))
 refine Wl.k 9 (.bool (decide (s=[]))) (.bool false) (by have e:=decide_eq_false (show ¬ (s=[]) from (by with_reducible assumption));rw [e] <;> rfl) ?_
 refine Wl.bs 3 5 [(11,(.int .u8 (q8 s 0)))] [(((0:Int)≤0)∧(0<(List.length s:Int)))] (.cons (by omega) .nil) ?_
 refine Wl.c 5 [(12,(.int .i64 (-1)))] (@hc) ?_
 refine Wl.b0 6 16 [(22,(.bool true))] ?_
 refine Wl.dn 16 (Wc.ct (Wc.seq (Wc.w0 [] ?_)))
 refine Wc.ret ?_
 refine retX.mk (.int .i64 0) ⟨rfl,rfl⟩ (by kernel_rfl) ?_
 kernel_rfl
theorem ze1 (s:List UInt8) (hs:s≠[]) (n:Int) (h1:1≤n) (h2:(s.length:Int)≤n) (hn:q44 (q8 s 0)=n):Cp Tryd.prog EU 40 [.str s] (.int .i64 0):=by
 have h0:0<s.length:=List.length_pos_iff.2 hs
 have hs':¬ s=[]:=hs
 have hc:=c39 (q8 s 0)
 rw [hn] at hc
 refine Cp.body (fn:=Tryd.f40) Tryd.func40 rfl (by kernel_rfl) ?_
 refine Wc.seq (Wc.wn0 [(0,(.str s)),(2,(.int .i64 0))] Heap.empty ?_)
 refine Wc.seq (Wc.seq (Wc.enter (Wl.b0 0 3 [(9,(.bool (decide (s=[]))))] ?_)))
 refine Wl.k 9 (.bool (decide (s=[]))) (.bool false) (by have e:=decide_eq_false (show ¬ (s=[]) from (by with_reducible assumption));rw [e] <;> rfl) ?_
 refine Wl.bs 3 5 [(11,(.int .u8 (q8 s 0)))] [(((0:Int)≤0)∧(0<(List.length s:Int)))] (.cons (by omega) .nil) ?_
 refine Wl.c 5 [(12,(.int .i64 (n)))] (@hc) ?_
 refine Wl.b0 6 9 [(15,(.bool (decide (n<0))))] ?_
 refine Wl.k 15 (.bool (decide (n<0))) (.bool false) (by have e:=decide_eq_false (show ¬ (n<0) from (by omega));rw [e] <;> rfl) ?_
 refine Wl.bs 9 11 [(17,(.int .u8 (q8 s 0)))] [(((0:Int)≤0)∧(0<(List.length s:Int)))] (.cons (by omega) .nil) ?_
 refine Wl.c 11 [(18,(.int .i64 (n)))] (@hc) ?_
 refine Wl.b0 12 16 [(22,(.bool (decide ((List.length s:Int)≤n))))] ?_
 refine Wl.dn 16 ?_
 refine Wc.cq (p:=(List.length s:Int)≤n) (fun c3=>?_) (fun c3=>absurd (show (List.length s:Int)≤n from (by with_reducible assumption)) c3)
 refine Wc.seq (Wc.w0 [] ?_)
 refine Wc.ret ?_
 refine retX.mk (.int .i64 0) ⟨rfl,rfl⟩ (by kernel_rfl) ?_
 kernel_rfl
theorem c33a (s:List UInt8) (hs:s≠[]) (hn:q44 (q8 s 0)=0) (h128:q8 s 0<128) (hb:0≤q8 s 0):Cp Tryd.prog EU 40 [.str s] (.int .i64 1):=by
 have h0:0<s.length:=List.length_pos_iff.2 hs
 have hs':¬ s=[]:=hs
 have hc:=c39 (q8 s 0)
 rw [hn] at hc
 refine Cp.body (fn:=Tryd.f40) Tryd.func40 rfl (by kernel_rfl) ?_
 refine Wc.seq (Wc.wn0 [(0,(.str s)),(2,(.int .i64 0))] Heap.empty ?_)
 refine Wc.seq (Wc.seq (Wc.enter (Wl.b0 0 3 [(9,(.bool (decide (s=[]))))] ?_)))
 refine Wl.k 9 (.bool (decide (s=[]))) (.bool false) (by have e:=decide_eq_false (show ¬ (s=[]) from (by with_reducible assumption));rw [e] <;> rfl) ?_
 refine Wl.bs 3 5 [(11,(.int .u8 (q8 s 0)))] [(((0:Int)≤0)∧(0<(List.length s:Int)))] (.cons (by omega) .nil) ?_
 refine Wl.c 5 [(12,(.int .i64 0))] (@hc) ?_
 refine Wl.bs 6 11 [(15,(.bool false)),(17,(.int .u8 (q8 s 0)))] [(((0:Int)≤0)∧(0<(List.length s:Int)))] (.cons (by omega) .nil) ?_
 refine Wl.c 11 [(18,(.int .i64 0))] (@hc) ?_
 let v1:V:=(.bool (decide ((List.length s:Int)≤0)))
 refine Wl.b0 12 16 [(22,v1)] ?_
 refine Wl.dn 16 ?_
 refine Wc.cq (p:=(List.length s:Int)≤0) (fun c2=>absurd c2 (show ¬ ((List.length s:Int)≤0) from (by omega))) (fun c2=>?_)
 refine Wc.skip (Wc.seq (Wc.enter (Wl.bs 0 2 [(24,(.int .u8 (q8 s 0)))] [(((0:Int)≤0)∧(0<(List.length s:Int)))] (.cons (by omega) .nil) ?_)))
 refine Wl.c 2 [(25,(.int .i64 0))] (@hc) ?_
 refine Wl.b0 3 4 [(3,(.int .i64 0))] ?_
 refine Wl.dn 4 (Wc.seq (Wc.w [(4,(.int .i64 (q8 s 0)))] [(((0:Int)≤0)∧(0<(List.length s:Int))),(i64r (q8 s (0:Int)))] (.cons (by omega) (.cons (by omega) .nil)) ?_))
 refine Wc.seq (Wc.seq (Wc.w0 [(30,(.bool false))] ?_))
 refine Wc.cf (Wc.skip (Wc.seq (Wc.seq (Wc.w0 [(5,(.int .i64 1))] ?_))))
 refine Wc.block (Wc.unroll (Wc.seq (Wc.seq (Wc.wn0 [(0,(.str s)),(2,(.int .i64 0)),(3,(.int .i64 0)),(4,(.int .i64 (q8 s 0))),(5,(.int .i64 1)),(22,v1),(30,(.bool false)),(38,(.bool false))] Heap.empty ?_))))
 refine Wc.cf (Wc.exit (z8.here (Wc.seq (Wc.w [(6,(.int .i64 0))] [(((0:Int)≤0)∧((0:Int)<4))] (.cons (by omega) .nil) ?_))))
 refine Wc.seq (Wc.seq (Wc.enter (Wl.b0 0 7 [(66,(.bool false)),(69,(.bool (decide (55296≤q8 s 0))))] ?_)))
 refine Wl.k 69 (.bool (decide (55296≤q8 s 0))) (.bool false) (by have e:=decide_eq_false (show ¬ (55296≤q8 s 0) from (by omega));rw [e] <;> rfl) ?_
 refine Wl.b0 7 15 [(77,(.bool (decide (1114111<q8 s 0))))] ?_
 refine Wl.dn 15 ?_
 refine Wc.cq (p:=1114111<q8 s 0) (fun c4=>absurd c4 (show ¬ (1114111<q8 s 0) from (by omega))) (fun c4=>?_)
 refine Wc.skip (Wc.seq (Wc.w [(2,(.int .i64 1))] [(i64r (1:Int))] (.cons (by omega) .nil) ?_))
 refine Wc.ret ?_
 refine retX.mk (.int .i64 1) ⟨rfl,rfl⟩ (by kernel_rfl) ?_
 kernel_rfl
theorem ja7 (s:List UInt8) (hs:s≠[]) (hl:1<s.length) (h:194≤q8 s 0∧q8 s 0≤223):Cp Tryd.prog EU 40 [.str s] (.int .i64 ((one s:Nat):Int)):=by
 have h0:0<s.length:=List.length_pos_iff.2 hs
 have hs':¬ s=[]:=hs
 have hn:q44 (q8 s 0)=1:=by
  unfold q44
  repeat' split
  all_goals omega
 have hc:=c39 (q8 s 0)
 rw [hn] at hc
 have e0:q8 s 0=(atN s 0:Int):=rfl
 have e1:q8 s 1=(atN s 1:Int):=rfl
 have e2:q8 s 2=(atN s 2:Int):=rfl
 have e3:q8 s 3=(atN s 3:Int):=rfl
 have q0:=q85 s 0
 have q1:=q85 s 1
 have q2:=q85 s 2
 have q3:=q85 s 3
 have ho:=zf2 hs
 rw [xi8 (by omega)] at ho
 simp only [decide_eq_true_eq] at ho
 refine Cp.body (fn:=Tryd.f40) Tryd.func40 rfl (by kernel_rfl) ?_
 refine Wc.seq (Wc.wn0 [(0,(.str s)),(2,(.int .i64 0))] Heap.empty ?_)
 refine Wc.seq (Wc.seq (Wc.enter (Wl.b0 0 3 [(9,(.bool (decide (s=[]))))] ?_)))
 refine Wl.k 9 (.bool (decide (s=[]))) (.bool false) (by have e:=decide_eq_false (show ¬ (s=[]) from hs');simp only [e] <;> rfl) ?_
 refine Wl.bs 3 5 [(11,(.int .u8 (q8 s 0)))] [(((0:Int)≤0)∧(0<(List.length s:Int)))] (.cons (by omega) .nil) ?_
 refine Wl.c 5 [(12,(.int .i64 1))] (@hc) ?_
 refine Wl.bs 6 11 [(15,(.bool false)),(17,(.int .u8 (q8 s 0)))] [(((0:Int)≤0)∧(0<(List.length s:Int)))] (.cons (by omega) .nil) ?_
 refine Wl.c 11 [(18,(.int .i64 1))] (@hc) ?_
 refine Wl.b0 12 16 [(22,(.bool (decide ((List.length s:Int)≤1))))] ?_
 refine Wl.dn 16 ?_
 refine Wc.cq (p:=(List.length s:Int)≤1) (fun c2=>absurd c2 (show ¬ ((List.length s:Int)≤1) from (by omega))) (fun c2=>?_)
 refine Wc.skip (Wc.seq (Wc.enter (Wl.bs 0 2 [(24,(.int .u8 (q8 s 0)))] [(((0:Int)≤0)∧(0<(List.length s:Int)))] (.cons (by omega) .nil) ?_)))
 refine Wl.c 2 [(25,(.int .i64 1))] (@hc) ?_
 refine Wl.b0 3 4 [(3,(.int .i64 1))] ?_
 refine Wl.dn 4 (Wc.seq (Wc.w [(4,(.int .i64 (q8 s 0)))] [(((0:Int)≤0)∧(0<(List.length s:Int))),(i64r (q8 s (0:Int)))] (.cons (by omega) (.cons (by omega) .nil)) ?_))
 refine Wc.seq (Wc.seq (Wc.w0 [(30,(.bool true))] ?_))
 refine Wc.ct (Wc.w [(4,(.int .i64 (q8 s 0%32)))] [(((0:Int)≤1)∧((1:Int)≤18446744073709551615)),(((0:Int)≤q8 s (0:Int))∧((0:Int)<32))] (.cons (by omega) (.cons (by omega) .nil)) ?_)
 refine Wc.seq (Wc.seq (Wc.w0 [(5,(.int .i64 1))] ?_))
 refine Wc.block (Wc.unroll (Wc.seq (Wc.seq (Wc.wn0 [(0,(.str s)),(2,(.int .i64 0)),(3,(.int .i64 1)),(4,(.int .i64 (q8 s 0%32))),(5,(.int .i64 1)),(22,(.bool (decide ((List.length s:Int)≤1)))),(30,(.bool true)),(38,(.bool true))] Heap.empty ?_))))
 refine Wc.ct (Wc.skip (Wc.seq (Wc.block (Wc.seq (Wc.seq (Wc.enter (Wl.bs 0 5 [(45,(.bool (decide (q8 s 1<128))))] [(((0:Int)≤1)∧(1<(List.length s:Int)))] (.cons (by omega) .nil) ?_)))))))
 by_cases ga3:q8 s 1<128
 ·refine Wl.k 45 (.bool (decide (q8 s 1<128))) (.bool true) (by have e:=decide_eq_true (show q8 s 1<128 from ga3);simp only [e] <;> rfl) ?_
  refine Wl.b0 5 10 [(50,(.bool true))] ?_
  refine Wl.dn 10 (Wc.ct (Wc.seq (Wc.w0 [] ?_)))
  refine Wc.ret (z8.ret ?_)
  refine z8.ret ?_
  refine retX.mk (.int .i64 0) ⟨rfl,rfl⟩ (by kernel_rfl) ?_
  have e:one s=0:=by rw [ho,if_neg (by omega)]
  rw [e];rfl
 refine Wl.k 45 (.bool (decide (q8 s 1<128))) (.bool false) (by have e:=decide_eq_false (show ¬ (q8 s 1<128) from ga3);simp only [e] <;> rfl) ?_
 refine Wl.bs 5 10 [(50,(.bool (decide (191<q8 s 1))))] [(((0:Int)≤1)∧(1<(List.length s:Int)))] (.cons (by omega) .nil) ?_
 refine Wl.dn 10 ?_
 refine Wc.cq (p:=191<q8 s 1) (fun c2=>?_) (fun c2=>?_)
 ·refine Wc.seq (Wc.w0 [] ?_)
  refine Wc.ret (z8.ret ?_)
  refine z8.ret ?_
  refine retX.mk (.int .i64 0) ⟨rfl,rfl⟩ (by kernel_rfl) ?_
  have e:one s=0:=by rw [ho,if_neg (by omega)]
  rw [e];rfl
 refine Wc.skip (Wc.w [(4,(.int .i64 (64*(q8 s 0%32)+q8 s 1%64)))] [(i64r ((64:Int)*(q8 s (0:Int)%32))),(((0:Int)≤1)∧(1<(List.length s:Int))),(((0:Int)≤q8 s (1:Int))∧((0:Int)<64)),(i64r (q8 s (1:Int)%64)),(i64r ((64:Int)*(q8 s (0:Int)%32)+q8 s (1:Int)%64))] (.cons (by omega) (.cons (by omega) (.cons (by omega) (.cons (by omega) (.cons (by omega) .nil))))) ?_)
 refine Wc.w [(5,(.int .i64 2))] [(i64r (2:Int))] (.cons (by omega) .nil) ?_
 refine Wc.unroll (Wc.seq (Wc.seq (Wc.wn0 [(0,(.str s)),(2,(.int .i64 0)),(3,(.int .i64 1)),(4,(.int .i64 (64*(q8 s 0%32)+q8 s 1%64))),(5,(.int .i64 2)),(22,(.bool (decide ((List.length s:Int)≤1)))),(30,(.bool true)),(38,(.bool false)),(50,(.bool (decide (191<q8 s 1))))] Heap.empty ?_)))
 refine Wc.cf (Wc.exit (z8.here (Wc.seq (Wc.w [(6,(.int .i64 128))] [(((0:Int)≤1)∧((1:Int)<4))] (.cons (by omega) .nil) ?_))))
 refine Wc.seq (Wc.seq (Wc.enter (Wl.b0 0 4 [(66,(.bool (decide (64*(q8 s 0%32)+q8 s 1%64<128))))] ?_)))
 refine Wl.k 66 (.bool (decide (64*(q8 s 0%32)+q8 s 1%64<128))) (.bool false) (by have e:=decide_eq_false (show ¬ (64*(q8 s 0%32)+q8 s 1%64<128) from (by omega));simp only [e] <;> rfl) ?_
 refine Wl.b0 4 7 [(69,(.bool (decide (55296≤64*(q8 s 0%32)+q8 s 1%64))))] ?_
 refine Wl.k 69 (.bool (decide (55296≤64*(q8 s 0%32)+q8 s 1%64))) (.bool false) (by have e:=decide_eq_false (show ¬ (55296≤64*(q8 s 0%32)+q8 s 1%64) from (by omega));simp only [e] <;> rfl) ?_
 refine Wl.b0 7 15 [(77,(.bool (decide (1114111<64*(q8 s 0%32)+q8 s 1%64))))] ?_
 refine Wl.dn 15 ?_
 refine Wc.cq (p:=1114111<64*(q8 s 0%32)+q8 s 1%64) (fun c5=>absurd c5 (show ¬ (1114111<64*(q8 s 0%32)+q8 s 1%64) from (by omega))) (fun c5=>?_)
 refine Wc.skip (Wc.seq (Wc.w [(2,(.int .i64 2))] [(i64r (2:Int))] (.cons (by omega) .nil) ?_))
 refine Wc.ret ?_
 refine retX.mk (.int .i64 2) ⟨rfl,rfl⟩ (by kernel_rfl) ?_
 have e:one s=2:=by rw [ho,if_pos (by omega)]
 rw [e];rfl
theorem jb3 (s:List UInt8) (hs:s≠[]) (hl:2<s.length) (h:224≤q8 s 0∧q8 s 0≤239):Cp Tryd.prog EU 40 [.str s] (.int .i64 ((one s:Nat):Int)):=by
 have h0:0<s.length:=List.length_pos_iff.2 hs
 have hs':¬ s=[]:=hs
 have hn:q44 (q8 s 0)=2:=by
  unfold q44
  repeat' split
  all_goals omega
 have hc:=c39 (q8 s 0)
 rw [hn] at hc
 have e0:q8 s 0=(atN s 0:Int):=rfl
 have e1:q8 s 1=(atN s 1:Int):=rfl
 have e2:q8 s 2=(atN s 2:Int):=rfl
 have e3:q8 s 3=(atN s 3:Int):=rfl
 have q0:=q85 s 0
 have q1:=q85 s 1
 have q2:=q85 s 2
 have q3:=q85 s 3
 have ho:=zf2 hs
 rw [xm1 (by omega)] at ho
 simp only [decide_eq_true_eq] at ho
 refine Cp.body (fn:=Tryd.f40) Tryd.func40 rfl (by kernel_rfl) ?_
 refine Wc.seq (Wc.wn0 [(0,(.str s)),(2,(.int .i64 0))] Heap.empty ?_)
 refine Wc.seq (Wc.seq (Wc.enter (Wl.b0 0 3 [(9,(.bool (decide (s=[]))))] ?_)))
 refine Wl.k 9 (.bool (decide (s=[]))) (.bool false) (by have e:=decide_eq_false (show ¬ (s=[]) from hs');simp only [e] <;> rfl) ?_
 refine Wl.bs 3 5 [(11,(.int .u8 (q8 s 0)))] [(((0:Int)≤0)∧(0<(List.length s:Int)))] (.cons (by omega) .nil) ?_
 refine Wl.c 5 [(12,(.int .i64 2))] (@hc) ?_
 refine Wl.bs 6 11 [(15,(.bool false)),(17,(.int .u8 (q8 s 0)))] [(((0:Int)≤0)∧(0<(List.length s:Int)))] (.cons (by omega) .nil) ?_
 refine Wl.c 11 [(18,(.int .i64 2))] (@hc) ?_
 refine Wl.b0 12 16 [(22,(.bool (decide ((List.length s:Int)≤2))))] ?_
 refine Wl.dn 16 ?_
 refine Wc.cq (p:=(List.length s:Int)≤2) (fun c2=>absurd c2 (show ¬ ((List.length s:Int)≤2) from (by omega))) (fun c2=>?_)
 refine Wc.skip (Wc.seq (Wc.enter (Wl.bs 0 2 [(24,(.int .u8 (q8 s 0)))] [(((0:Int)≤0)∧(0<(List.length s:Int)))] (.cons (by omega) .nil) ?_)))
 refine Wl.c 2 [(25,(.int .i64 2))] (@hc) ?_
 refine Wl.b0 3 4 [(3,(.int .i64 2))] ?_
 refine Wl.dn 4 (Wc.seq (Wc.w [(4,(.int .i64 (q8 s 0)))] [(((0:Int)≤0)∧(0<(List.length s:Int))),(i64r (q8 s (0:Int)))] (.cons (by omega) (.cons (by omega) .nil)) ?_))
 refine Wc.seq (Wc.seq (Wc.w0 [(30,(.bool true))] ?_))
 refine Wc.ct (Wc.w [(4,(.int .i64 (q8 s 0%16)))] [(((0:Int)≤2)∧((2:Int)≤18446744073709551615)),(((0:Int)≤q8 s (0:Int))∧((0:Int)<16))] (.cons (by omega) (.cons (by omega) .nil)) ?_)
 refine Wc.seq (Wc.seq (Wc.w0 [(5,(.int .i64 1))] ?_))
 refine Wc.block (Wc.unroll (Wc.seq (Wc.seq (Wc.wn0 [(0,(.str s)),(2,(.int .i64 0)),(3,(.int .i64 2)),(4,(.int .i64 (q8 s 0%16))),(5,(.int .i64 1)),(22,(.bool (decide ((List.length s:Int)≤2)))),(30,(.bool true)),(38,(.bool true))] Heap.empty ?_))))
 refine Wc.ct (Wc.skip (Wc.seq (Wc.block (Wc.seq (Wc.seq (Wc.enter (Wl.bs 0 5 [(45,(.bool (decide (q8 s 1<128))))] [(((0:Int)≤1)∧(1<(List.length s:Int)))] (.cons (by omega) .nil) ?_)))))))
 by_cases ga2:q8 s 1<128
 ·refine Wl.k 45 (.bool (decide (q8 s 1<128))) (.bool true) (by have e:=decide_eq_true (show q8 s 1<128 from ga2);simp only [e] <;> rfl) ?_
  refine Wl.b0 5 10 [(50,(.bool true))] ?_
  refine Wl.dn 10 (Wc.ct (Wc.seq (Wc.w0 [] ?_)))
  refine Wc.ret (z8.ret ?_)
  refine z8.ret ?_
  refine retX.mk (.int .i64 0) ⟨rfl,rfl⟩ (by kernel_rfl) ?_
  have e:one s=0:=by rw [ho,if_neg (by omega)]
  rw [e];rfl
 refine Wl.k 45 (.bool (decide (q8 s 1<128))) (.bool false) (by have e:=decide_eq_false (show ¬ (q8 s 1<128) from ga2);simp only [e] <;> rfl) ?_
 refine Wl.bs 5 10 [(50,(.bool (decide (191<q8 s 1))))] [(((0:Int)≤1)∧(1<(List.length s:Int)))] (.cons (by omega) .nil) ?_
 refine Wl.dn 10 ?_
 refine Wc.cq (p:=191<q8 s 1) (fun c2=>?_) (fun c2=>?_)
 ·refine Wc.seq (Wc.w0 [] ?_)
  refine Wc.ret (z8.ret ?_)
  refine z8.ret ?_
  refine retX.mk (.int .i64 0) ⟨rfl,rfl⟩ (by kernel_rfl) ?_
  have e:one s=0:=by rw [ho,if_neg (by omega)]
  rw [e];rfl
 refine Wc.skip (Wc.w [(4,(.int .i64 (64*(q8 s 0%16)+q8 s 1%64)))] [(i64r ((64:Int)*(q8 s (0:Int)%16))),(((0:Int)≤1)∧(1<(List.length s:Int))),(((0:Int)≤q8 s (1:Int))∧((0:Int)<64)),(i64r (q8 s (1:Int)%64)),(i64r ((64:Int)*(q8 s (0:Int)%16)+q8 s (1:Int)%64))] (.cons (by omega) (.cons (by omega) (.cons (by omega) (.cons (by omega) (.cons (by omega) .nil))))) ?_)
 refine Wc.w [(5,(.int .i64 2))] [(i64r (2:Int))] (.cons (by omega) .nil) ?_
 refine Wc.unroll (Wc.seq (Wc.seq (Wc.wn0 [(0,(.str s)),(2,(.int .i64 0)),(3,(.int .i64 2)),(4,(.int .i64 (64*(q8 s 0%16)+q8 s 1%64))),(5,(.int .i64 2)),(22,(.bool (decide ((List.length s:Int)≤2)))),(30,(.bool true)),(38,(.bool true)),(50,(.bool (decide (191<q8 s 1))))] Heap.empty ?_)))
 refine Wc.ct (Wc.skip (Wc.seq (Wc.block (Wc.seq (Wc.seq (Wc.enter (Wl.bs 0 5 [(45,(.bool (decide (q8 s 2<128))))] [(((0:Int)≤2)∧(2<(List.length s:Int)))] (.cons (by omega) .nil) ?_)))))))
 by_cases gb5:q8 s 2<128
 ·refine Wl.k 45 (.bool (decide (q8 s 2<128))) (.bool true) (by have e:=decide_eq_true (show q8 s 2<128 from gb5);simp only [e] <;> rfl) ?_
  refine Wl.b0 5 10 [(50,(.bool true))] ?_
  refine Wl.dn 10 (Wc.ct (Wc.seq (Wc.w0 [] ?_)))
  refine Wc.ret (z8.ret ?_)
  refine z8.ret ?_
  refine retX.mk (.int .i64 0) ⟨rfl,rfl⟩ (by kernel_rfl) ?_
  have e:one s=0:=by rw [ho,if_neg (by omega)]
  rw [e];rfl
 refine Wl.k 45 (.bool (decide (q8 s 2<128))) (.bool false) (by have e:=decide_eq_false (show ¬ (q8 s 2<128) from gb5);simp only [e] <;> rfl) ?_
 refine Wl.bs 5 10 [(50,(.bool (decide (191<q8 s 2))))] [(((0:Int)≤2)∧(2<(List.length s:Int)))] (.cons (by omega) .nil) ?_
 refine Wl.dn 10 ?_
 refine Wc.cq (p:=191<q8 s 2) (fun c2=>?_) (fun c2=>?_)
 ·refine Wc.seq (Wc.w0 [] ?_)
  refine Wc.ret (z8.ret ?_)
  refine z8.ret ?_
  refine retX.mk (.int .i64 0) ⟨rfl,rfl⟩ (by kernel_rfl) ?_
  have e:one s=0:=by rw [ho,if_neg (by omega)]
  rw [e];rfl
 refine Wc.skip (Wc.w [(4,(.int .i64 (64*(64*(q8 s 0%16)+q8 s 1%64)+q8 s 2%64)))] [(i64r ((64:Int)*((64:Int)*(q8 s (0:Int)%16)+q8 s (1:Int)%64))),(((0:Int)≤2)∧(2<(List.length s:Int))),(((0:Int)≤q8 s (2:Int))∧((0:Int)<64)),(i64r (q8 s (2:Int)%64)),(i64r ((64:Int)*((64:Int)*(q8 s (0:Int)%16)+q8 s (1:Int)%64)+q8 s (2:Int)%64))] (.cons (by omega) (.cons (by omega) (.cons (by omega) (.cons (by omega) (.cons (by omega) .nil))))) ?_)
 refine Wc.w [(5,(.int .i64 3))] [(i64r (3:Int))] (.cons (by omega) .nil) ?_
 refine Wc.unroll (Wc.seq (Wc.seq (Wc.wn0 [(0,(.str s)),(2,(.int .i64 0)),(3,(.int .i64 2)),(4,(.int .i64 (64*(64*(q8 s 0%16)+q8 s 1%64)+q8 s 2%64))),(5,(.int .i64 3)),(22,(.bool (decide ((List.length s:Int)≤2)))),(30,(.bool true)),(38,(.bool false)),(50,(.bool (decide (191<q8 s 2))))] Heap.empty ?_)))
 refine Wc.cf (Wc.exit (z8.here (Wc.seq (Wc.w [(6,(.int .i64 2048))] [(((0:Int)≤2)∧((2:Int)<4))] (.cons (by omega) .nil) ?_))))
 refine Wc.seq (Wc.seq (Wc.enter (Wl.b0 0 4 [(66,(.bool (decide (64*(64*(q8 s 0%16)+q8 s 1%64)+q8 s 2%64<2048))))] ?_)))
 by_cases gc5:64*(64*(q8 s 0%16)+q8 s 1%64)+q8 s 2%64<2048
 ·refine Wl.k 66 (.bool (decide (64*(64*(q8 s 0%16)+q8 s 1%64)+q8 s 2%64<2048))) (.bool true) (by have e:=decide_eq_true (show 64*(64*(q8 s 0%16)+q8 s 1%64)+q8 s 2%64<2048 from gc5);simp only [e] <;> rfl) ?_
  refine Wl.b0 4 15 [(77,(.bool true))] ?_
  refine Wl.dn 15 (Wc.ct (Wc.seq (Wc.w0 [] ?_)))
  refine Wc.ret ?_
  refine retX.mk (.int .i64 0) ⟨rfl,rfl⟩ (by kernel_rfl) ?_
  have e:one s=0:=by rw [ho,if_neg (by omega)]
  rw [e];rfl
 refine Wl.k 66 (.bool (decide (64*(64*(q8 s 0%16)+q8 s 1%64)+q8 s 2%64<2048))) (.bool false) (by have e:=decide_eq_false (show ¬ (64*(64*(q8 s 0%16)+q8 s 1%64)+q8 s 2%64<2048) from gc5);simp only [e] <;> rfl) ?_
 refine Wl.b0 4 7 [(69,(.bool (decide (55296≤64*(64*(q8 s 0%16)+q8 s 1%64)+q8 s 2%64))))] ?_
 by_cases gd4:55296≤64*(64*(q8 s 0%16)+q8 s 1%64)+q8 s 2%64
 ·refine Wl.k 69 (.bool (decide (55296≤64*(64*(q8 s 0%16)+q8 s 1%64)+q8 s 2%64))) (.bool true) (by have e:=decide_eq_true (show 55296≤64*(64*(q8 s 0%16)+q8 s 1%64)+q8 s 2%64 from gd4);simp only [e] <;> rfl) ?_
  refine Wl.b0 7 12 [(74,(.bool (decide (64*(64*(q8 s 0%16)+q8 s 1%64)+q8 s 2%64≤57343))))] ?_
  by_cases ge5:64*(64*(q8 s 0%16)+q8 s 1%64)+q8 s 2%64≤57343
  ·refine Wl.k 74 (.bool (decide (64*(64*(q8 s 0%16)+q8 s 1%64)+q8 s 2%64≤57343))) (.bool true) (by have e:=decide_eq_true (show 64*(64*(q8 s 0%16)+q8 s 1%64)+q8 s 2%64≤57343 from ge5);simp only [e] <;> rfl) ?_
   refine Wl.b0 12 15 [(77,(.bool true))] ?_
   refine Wl.dn 15 (Wc.ct (Wc.seq (Wc.w0 [] ?_)))
   refine Wc.ret ?_
   refine retX.mk (.int .i64 0) ⟨rfl,rfl⟩ (by kernel_rfl) ?_
   have e:one s=0:=by rw [ho,if_neg (by omega)]
   rw [e];rfl
  refine Wl.k 74 (.bool (decide (64*(64*(q8 s 0%16)+q8 s 1%64)+q8 s 2%64≤57343))) (.bool false) (by have e:=decide_eq_false (show ¬ (64*(64*(q8 s 0%16)+q8 s 1%64)+q8 s 2%64≤57343) from ge5);simp only [e] <;> rfl) ?_
  refine Wl.b0 12 15 [(77,(.bool (decide (1114111<64*(64*(q8 s 0%16)+q8 s 1%64)+q8 s 2%64))))] ?_
  refine Wl.dn 15 ?_
  refine Wc.cq (p:=1114111<64*(64*(q8 s 0%16)+q8 s 1%64)+q8 s 2%64) (fun c2=>absurd c2 (show ¬ (1114111<64*(64*(q8 s 0%16)+q8 s 1%64)+q8 s 2%64) from (by omega))) (fun c2=>?_)
  refine Wc.skip (Wc.seq (Wc.w [(2,(.int .i64 3))] [(i64r (3:Int))] (.cons (by omega) .nil) ?_))
  refine Wc.ret ?_
  refine retX.mk (.int .i64 3) ⟨rfl,rfl⟩ (by kernel_rfl) ?_
  have e:one s=3:=by rw [ho,if_pos (by omega)]
  rw [e];rfl
 refine Wl.k 69 (.bool (decide (55296≤64*(64*(q8 s 0%16)+q8 s 1%64)+q8 s 2%64))) (.bool false) (by have e:=decide_eq_false (show ¬ (55296≤64*(64*(q8 s 0%16)+q8 s 1%64)+q8 s 2%64) from gd4);simp only [e] <;> rfl) ?_
 refine Wl.b0 7 15 [(77,(.bool (decide (1114111<64*(64*(q8 s 0%16)+q8 s 1%64)+q8 s 2%64))))] ?_
 refine Wl.dn 15 ?_
 refine Wc.cq (p:=1114111<64*(64*(q8 s 0%16)+q8 s 1%64)+q8 s 2%64) (fun c2=>absurd c2 (show ¬ (1114111<64*(64*(q8 s 0%16)+q8 s 1%64)+q8 s 2%64) from (by omega))) (fun c2=>?_)
 refine Wc.skip (Wc.seq (Wc.w [(2,(.int .i64 3))] [(i64r (3:Int))] (.cons (by omega) .nil) ?_))
 refine Wc.ret ?_
 refine retX.mk (.int .i64 3) ⟨rfl,rfl⟩ (by kernel_rfl) ?_
 have e:one s=3:=by rw [ho,if_pos (by omega)]
 rw [e];rfl
theorem j95 (s:List UInt8) (hs:s≠[]) (hl:3<s.length) (h:240≤q8 s 0∧q8 s 0≤244):Cp Tryd.prog EU 40 [.str s] (.int .i64 ((one s:Nat):Int)):=by
 have h0:0<s.length:=List.length_pos_iff.2 hs
 have hs':¬ s=[]:=hs
 have hn:q44 (q8 s 0)=3:=by
  unfold q44
  repeat' split
  all_goals omega
 have hc:=c39 (q8 s 0)
 rw [hn] at hc
 have e0:q8 s 0=(atN s 0:Int):=rfl
 have e1:q8 s 1=(atN s 1:Int):=rfl
 have e2:q8 s 2=(atN s 2:Int):=rfl
 have e3:q8 s 3=(atN s 3:Int):=rfl
 have q0:=q85 s 0
 have q1:=q85 s 1
 have q2:=q85 s 2
 have q3:=q85 s 3
 have ho:=zf2 hs
 rw [xg2 (by omega)] at ho
 simp only [decide_eq_true_eq] at ho
 refine Cp.body (fn:=Tryd.f40) Tryd.func40 rfl (by kernel_rfl) ?_
 refine Wc.seq (Wc.wn0 [(0,(.str s)),(2,(.int .i64 0))] Heap.empty ?_)
 refine Wc.seq (Wc.seq (Wc.enter (Wl.b0 0 3 [(9,(.bool (decide (s=[]))))] ?_)))
 refine Wl.k 9 (.bool (decide (s=[]))) (.bool false) (by have e:=decide_eq_false (show ¬ (s=[]) from hs');simp only [e] <;> rfl) ?_
 refine Wl.bs 3 5 [(11,(.int .u8 (q8 s 0)))] [(((0:Int)≤0)∧(0<(List.length s:Int)))] (.cons (by omega) .nil) ?_
 refine Wl.c 5 [(12,(.int .i64 3))] (@hc) ?_
 refine Wl.bs 6 11 [(15,(.bool false)),(17,(.int .u8 (q8 s 0)))] [(((0:Int)≤0)∧(0<(List.length s:Int)))] (.cons (by omega) .nil) ?_
 refine Wl.c 11 [(18,(.int .i64 3))] (@hc) ?_
 refine Wl.b0 12 16 [(22,(.bool (decide ((List.length s:Int)≤3))))] ?_
 refine Wl.dn 16 ?_
 refine Wc.cq (p:=(List.length s:Int)≤3) (fun c2=>absurd c2 (show ¬ ((List.length s:Int)≤3) from (by omega))) (fun c2=>?_)
 refine Wc.skip (Wc.seq (Wc.enter (Wl.bs 0 2 [(24,(.int .u8 (q8 s 0)))] [(((0:Int)≤0)∧(0<(List.length s:Int)))] (.cons (by omega) .nil) ?_)))
 refine Wl.c 2 [(25,(.int .i64 3))] (@hc) ?_
 refine Wl.b0 3 4 [(3,(.int .i64 3))] ?_
 refine Wl.dn 4 (Wc.seq (Wc.w [(4,(.int .i64 (q8 s 0)))] [(((0:Int)≤0)∧(0<(List.length s:Int))),(i64r (q8 s (0:Int)))] (.cons (by omega) (.cons (by omega) .nil)) ?_))
 refine Wc.seq (Wc.seq (Wc.w0 [(30,(.bool true))] ?_))
 refine Wc.ct (Wc.w [(4,(.int .i64 (q8 s 0%8)))] [(((0:Int)≤3)∧((3:Int)≤18446744073709551615)),(((0:Int)≤q8 s (0:Int))∧((0:Int)<8))] (.cons (by omega) (.cons (by omega) .nil)) ?_)
 refine Wc.seq (Wc.seq (Wc.w0 [(5,(.int .i64 1))] ?_))
 refine Wc.block (Wc.unroll (Wc.seq (Wc.seq (Wc.wn0 [(0,(.str s)),(2,(.int .i64 0)),(3,(.int .i64 3)),(4,(.int .i64 (q8 s 0%8))),(5,(.int .i64 1)),(22,(.bool (decide ((List.length s:Int)≤3)))),(30,(.bool true)),(38,(.bool true))] Heap.empty ?_))))
 refine Wc.ct (Wc.skip (Wc.seq (Wc.block (Wc.seq (Wc.seq (Wc.enter (Wl.bs 0 5 [(45,(.bool (decide (q8 s 1<128))))] [(((0:Int)≤1)∧(1<(List.length s:Int)))] (.cons (by omega) .nil) ?_)))))))
 by_cases ga1:q8 s 1<128
 ·refine Wl.k 45 (.bool (decide (q8 s 1<128))) (.bool true) (by have e:=decide_eq_true (show q8 s 1<128 from ga1);simp only [e] <;> rfl) ?_
  refine Wl.b0 5 10 [(50,(.bool true))] ?_
  refine Wl.dn 10 (Wc.ct (Wc.seq (Wc.w0 [] ?_)))
  refine Wc.ret (z8.ret ?_)
  refine z8.ret ?_
  refine retX.mk (.int .i64 0) ⟨rfl,rfl⟩ (by kernel_rfl) ?_
  have e:one s=0:=by rw [ho,if_neg (by omega)]
  rw [e];rfl
 refine Wl.k 45 (.bool (decide (q8 s 1<128))) (.bool false) (by have e:=decide_eq_false (show ¬ (q8 s 1<128) from ga1);simp only [e] <;> rfl) ?_
 refine Wl.bs 5 10 [(50,(.bool (decide (191<q8 s 1))))] [(((0:Int)≤1)∧(1<(List.length s:Int)))] (.cons (by omega) .nil) ?_
 refine Wl.dn 10 ?_
 refine Wc.cq (p:=191<q8 s 1) (fun c2=>?_) (fun c2=>?_)
 ·refine Wc.seq (Wc.w0 [] ?_)
  refine Wc.ret (z8.ret ?_)
  refine z8.ret ?_
  refine retX.mk (.int .i64 0) ⟨rfl,rfl⟩ (by kernel_rfl) ?_
  have e:one s=0:=by rw [ho,if_neg (by omega)]
  rw [e];rfl
 refine Wc.skip (Wc.w [(4,(.int .i64 (64*(q8 s 0%8)+q8 s 1%64)))] [(i64r ((64:Int)*(q8 s (0:Int)%8))),(((0:Int)≤1)∧(1<(List.length s:Int))),(((0:Int)≤q8 s (1:Int))∧((0:Int)<64)),(i64r (q8 s (1:Int)%64)),(i64r ((64:Int)*(q8 s (0:Int)%8)+q8 s (1:Int)%64))] (.cons (by omega) (.cons (by omega) (.cons (by omega) (.cons (by omega) (.cons (by omega) .nil))))) ?_)
 refine Wc.w [(5,(.int .i64 2))] [(i64r (2:Int))] (.cons (by omega) .nil) ?_
 refine Wc.unroll (Wc.seq (Wc.seq (Wc.wn0 [(0,(.str s)),(2,(.int .i64 0)),(3,(.int .i64 3)),(4,(.int .i64 (64*(q8 s 0%8)+q8 s 1%64))),(5,(.int .i64 2)),(22,(.bool (decide ((List.length s:Int)≤3)))),(30,(.bool true)),(38,(.bool true)),(50,(.bool (decide (191<q8 s 1))))] Heap.empty ?_)))
 refine Wc.ct (Wc.skip (Wc.seq (Wc.block (Wc.seq (Wc.seq (Wc.enter (Wl.bs 0 5 [(45,(.bool (decide (q8 s 2<128))))] [(((0:Int)≤2)∧(2<(List.length s:Int)))] (.cons (by omega) .nil) ?_)))))))
 by_cases gb2:q8 s 2<128
 ·refine Wl.k 45 (.bool (decide (q8 s 2<128))) (.bool true) (by have e:=decide_eq_true (show q8 s 2<128 from gb2);simp only [e] <;> rfl) ?_
  refine Wl.b0 5 10 [(50,(.bool true))] ?_
  refine Wl.dn 10 (Wc.ct (Wc.seq (Wc.w0 [] ?_)))
  refine Wc.ret (z8.ret ?_)
  refine z8.ret ?_
  refine retX.mk (.int .i64 0) ⟨rfl,rfl⟩ (by kernel_rfl) ?_
  have e:one s=0:=by rw [ho,if_neg (by omega)]
  rw [e];rfl
 refine Wl.k 45 (.bool (decide (q8 s 2<128))) (.bool false) (by have e:=decide_eq_false (show ¬ (q8 s 2<128) from gb2);simp only [e] <;> rfl) ?_
 refine Wl.bs 5 10 [(50,(.bool (decide (191<q8 s 2))))] [(((0:Int)≤2)∧(2<(List.length s:Int)))] (.cons (by omega) .nil) ?_
 refine Wl.dn 10 ?_
 refine Wc.cq (p:=191<q8 s 2) (fun c2=>?_) (fun c2=>?_)
 ·refine Wc.seq (Wc.w0 [] ?_)
  refine Wc.ret (z8.ret ?_)
  refine z8.ret ?_
  refine retX.mk (.int .i64 0) ⟨rfl,rfl⟩ (by kernel_rfl) ?_
  have e:one s=0:=by rw [ho,if_neg (by omega)]
  rw [e];rfl
 refine Wc.skip (Wc.w [(4,(.int .i64 (64*(64*(q8 s 0%8)+q8 s 1%64)+q8 s 2%64)))] [(i64r ((64:Int)*((64:Int)*(q8 s (0:Int)%8)+q8 s (1:Int)%64))),(((0:Int)≤2)∧(2<(List.length s:Int))),(((0:Int)≤q8 s (2:Int))∧((0:Int)<64)),(i64r (q8 s (2:Int)%64)),(i64r ((64:Int)*((64:Int)*(q8 s (0:Int)%8)+q8 s (1:Int)%64)+q8 s (2:Int)%64))] (.cons (by omega) (.cons (by omega) (.cons (by omega) (.cons (by omega) (.cons (by omega) .nil))))) ?_)
 refine Wc.w [(5,(.int .i64 3))] [(i64r (3:Int))] (.cons (by omega) .nil) ?_
 refine Wc.unroll (Wc.seq (Wc.seq (Wc.wn0 [(0,(.str s)),(2,(.int .i64 0)),(3,(.int .i64 3)),(4,(.int .i64 (64*(64*(q8 s 0%8)+q8 s 1%64)+q8 s 2%64))),(5,(.int .i64 3)),(22,(.bool (decide ((List.length s:Int)≤3)))),(30,(.bool true)),(38,(.bool true)),(50,(.bool (decide (191<q8 s 2))))] Heap.empty ?_)))
 refine Wc.ct (Wc.skip (Wc.seq (Wc.block (Wc.seq (Wc.seq (Wc.enter (Wl.bs 0 5 [(45,(.bool (decide (q8 s 3<128))))] [(((0:Int)≤3)∧(3<(List.length s:Int)))] (.cons (by omega) .nil) ?_)))))))
 by_cases gc2:q8 s 3<128
 ·refine Wl.k 45 (.bool (decide (q8 s 3<128))) (.bool true) (by have e:=decide_eq_true (show q8 s 3<128 from gc2);simp only [e] <;> rfl) ?_
  refine Wl.b0 5 10 [(50,(.bool true))] ?_
  refine Wl.dn 10 (Wc.ct (Wc.seq (Wc.w0 [] ?_)))
  refine Wc.ret (z8.ret ?_)
  refine z8.ret ?_
  refine retX.mk (.int .i64 0) ⟨rfl,rfl⟩ (by kernel_rfl) ?_
  have e:one s=0:=by rw [ho,if_neg (by omega)]
  rw [e];rfl
 refine Wl.k 45 (.bool (decide (q8 s 3<128))) (.bool false) (by have e:=decide_eq_false (show ¬ (q8 s 3<128) from gc2);simp only [e] <;> rfl) ?_
 refine Wl.bs 5 10 [(50,(.bool (decide (191<q8 s 3))))] [(((0:Int)≤3)∧(3<(List.length s:Int)))] (.cons (by omega) .nil) ?_
 refine Wl.dn 10 ?_
 refine Wc.cq (p:=191<q8 s 3) (fun c2=>?_) (fun c2=>?_)
 ·refine Wc.seq (Wc.w0 [] ?_)
  refine Wc.ret (z8.ret ?_)
  refine z8.ret ?_
  refine retX.mk (.int .i64 0) ⟨rfl,rfl⟩ (by kernel_rfl) ?_
  have e:one s=0:=by rw [ho,if_neg (by omega)]
  rw [e];rfl
 refine Wc.skip (Wc.w [(4,(.int .i64 (64*(64*(64*(q8 s 0%8)+q8 s 1%64)+q8 s 2%64)+q8 s 3%64)))] [(i64r ((64:Int)*((64:Int)*((64:Int)*(q8 s (0:Int)%8)+q8 s (1:Int)%64)+q8 s (2:Int)%64))),(((0:Int)≤3)∧(3<(List.length s:Int))),(((0:Int)≤q8 s (3:Int))∧((0:Int)<64)),(i64r (q8 s (3:Int)%64)),(i64r ((64:Int)*((64:Int)*((64:Int)*(q8 s (0:Int)%8)+q8 s (1:Int)%64)+q8 s (2:Int)%64)+q8 s (3:Int)%64))] (.cons (by omega) (.cons (by omega) (.cons (by omega) (.cons (by omega) (.cons (by omega) .nil))))) ?_)
 refine Wc.w [(5,(.int .i64 4))] [(i64r (4:Int))] (.cons (by omega) .nil) ?_
 refine Wc.unroll (Wc.seq (Wc.seq (Wc.wn0 [(0,(.str s)),(2,(.int .i64 0)),(3,(.int .i64 3)),(4,(.int .i64 (64*(64*(64*(q8 s 0%8)+q8 s 1%64)+q8 s 2%64)+q8 s 3%64))),(5,(.int .i64 4)),(22,(.bool (decide ((List.length s:Int)≤3)))),(30,(.bool true)),(38,(.bool false)),(50,(.bool (decide (191<q8 s 3))))] Heap.empty ?_)))
 refine Wc.cf (Wc.exit (z8.here (Wc.seq (Wc.w [(6,(.int .i64 65536))] [(((0:Int)≤3)∧((3:Int)<4))] (.cons (by omega) .nil) ?_))))
 refine Wc.seq (Wc.seq (Wc.enter (Wl.b0 0 4 [(66,(.bool (decide (64*(64*(64*(q8 s 0%8)+q8 s 1%64)+q8 s 2%64)+q8 s 3%64<65536))))] ?_)))
 by_cases gd2:64*(64*(64*(q8 s 0%8)+q8 s 1%64)+q8 s 2%64)+q8 s 3%64<65536
 ·refine Wl.k 66 (.bool (decide (64*(64*(64*(q8 s 0%8)+q8 s 1%64)+q8 s 2%64)+q8 s 3%64<65536))) (.bool true) (by have e:=decide_eq_true (show 64*(64*(64*(q8 s 0%8)+q8 s 1%64)+q8 s 2%64)+q8 s 3%64<65536 from gd2);simp only [e] <;> rfl) ?_
  refine Wl.b0 4 15 [(77,(.bool true))] ?_
  refine Wl.dn 15 (Wc.ct (Wc.seq (Wc.w0 [] ?_)))
  refine Wc.ret ?_
  refine retX.mk (.int .i64 0) ⟨rfl,rfl⟩ (by kernel_rfl) ?_
  have e:one s=0:=by rw [ho,if_neg (by omega)]
  rw [e];rfl
 refine Wl.k 66 (.bool (decide (64*(64*(64*(q8 s 0%8)+q8 s 1%64)+q8 s 2%64)+q8 s 3%64<65536))) (.bool false) (by have e:=decide_eq_false (show ¬ (64*(64*(64*(q8 s 0%8)+q8 s 1%64)+q8 s 2%64)+q8 s 3%64<65536) from gd2);simp only [e] <;> rfl) ?_
 refine Wl.b0 4 7 [(69,(.bool (decide (55296≤64*(64*(64*(q8 s 0%8)+q8 s 1%64)+q8 s 2%64)+q8 s 3%64))))] ?_
 refine Wl.k 69 (.bool (decide (55296≤64*(64*(64*(q8 s 0%8)+q8 s 1%64)+q8 s 2%64)+q8 s 3%64))) (.bool true) (by have e:=decide_eq_true (show 55296≤64*(64*(64*(q8 s 0%8)+q8 s 1%64)+q8 s 2%64)+q8 s 3%64 from (by omega));simp only [e] <;> rfl) ?_
 refine Wl.b0 7 12 [(74,(.bool (decide (64*(64*(64*(q8 s 0%8)+q8 s 1%64)+q8 s 2%64)+q8 s 3%64≤57343))))] ?_
 refine Wl.k 74 (.bool (decide (64*(64*(64*(q8 s 0%8)+q8 s 1%64)+q8 s 2%64)+q8 s 3%64≤57343))) (.bool false) (by have e:=decide_eq_false (show ¬ (64*(64*(64*(q8 s 0%8)+q8 s 1%64)+q8 s 2%64)+q8 s 3%64≤57343) from (by omega));simp only [e] <;> rfl) ?_
 refine Wl.b0 12 15 [(77,(.bool (decide (1114111<64*(64*(64*(q8 s 0%8)+q8 s 1%64)+q8 s 2%64)+q8 s 3%64))))] ?_
 refine Wl.dn 15 ?_
 refine Wc.cq (p:=1114111<64*(64*(64*(q8 s 0%8)+q8 s 1%64)+q8 s 2%64)+q8 s 3%64) (fun c4=>?_) (fun c4=>?_)
 ·refine Wc.seq (Wc.w0 [] ?_)
  refine Wc.ret ?_
  refine retX.mk (.int .i64 0) ⟨rfl,rfl⟩ (by kernel_rfl) ?_
  have e:one s=0:=by rw [ho,if_neg (by omega)]
  rw [e];rfl
 refine Wc.skip (Wc.seq (Wc.w [(2,(.int .i64 4))] [(i64r (4:Int))] (.cons (by omega) .nil) ?_))
 refine Wc.ret ?_
 refine retX.mk (.int .i64 4) ⟨rfl,rfl⟩ (by kernel_rfl) ?_
 have e:one s=4:=by rw [ho,if_pos (by omega)]
 rw [e];rfl
theorem c33 (s:List UInt8):Cp Tryd.prog EU 40 [.str s] (.int .i64 ((one s:Nat):Int)):=by
 by_cases hs:s=[]
 ·subst hs;exact j69
 ·have e0:q8 s 0=(atN s 0:Int):=rfl
  have q0:=q85 s 0
  have hl:0<s.length:=List.length_pos_iff.2 hs
  have ho:=zf2 hs
  by_cases a1:q8 s 0<128
  ·rw [j41 (by omega)] at ho
   rw [ho]
   exact c33a s hs (by unfold q44;rw [if_pos a1]) a1 (by omega)
  ·by_cases a2:194≤q8 s 0∧q8 s 0≤223
   ·by_cases hn:1<s.length
    ·exact ja7 s hs hn a2
    ·rw [xi8 (by omega),if_neg (by simp only [decide_eq_true_eq];omega)] at ho
     rw [ho]
     exact ze1 s hs 1 (by omega) (by omega) (by unfold q44;rw [if_neg a1,if_pos a2])
   ·by_cases a3:224≤q8 s 0∧q8 s 0≤239
    ·by_cases hn:2<s.length
     ·exact jb3 s hs hn a3
     ·rw [xm1 (by omega),if_neg (by simp only [decide_eq_true_eq];omega)] at ho
      rw [ho]
      exact ze1 s hs 2 (by omega) (by omega) (by unfold q44;rw [if_neg a1,if_neg a2,if_pos a3])
    ·by_cases a4:240≤q8 s 0∧q8 s 0≤244
     ·by_cases hn:3<s.length
      ·exact j95 s hs hn a4
      ·rw [xg2 (by omega),if_neg (by simp only [decide_eq_true_eq];omega)] at ho
       rw [ho]
       exact ze1 s hs 3 (by omega) (by omega) (by unfold q44;rw [if_neg a1,if_neg a2,if_neg a3,if_pos a4])
     ·have hm:zs1 (atN s 0)=-1:=by
       unfold zs1
       rw [if_neg (by omega),if_neg (by omega),if_neg (by omega),if_neg (by omega)]
      rw [xo6 hm q0] at ho
      rw [ho]
      exact j21 s hs (by unfold q44;rw [if_neg a1,if_neg a2,if_neg a3,if_neg a4])
theorem c23 (s:List UInt8) (hs:s.length≤1000):Cp Tryd.prog EU 18 [.str s] (.int .i64 ((wide s:Nat):Int)):=by
 refine Cp.body (fn:=Tryd.f18) Tryd.func18 rfl (by kernel_rfl) ?_
 refine Wc.seq (Wc.wn0 [(0,(.str s)),(2,(.int .i64 0))] Heap.empty ?_)
 refine Wc.seq (Wc.w0 [(3,(.int .i64 0))] ?_)
 refine Wc.seq (Wc.block ?_)
 refine Wc.loop (α:=Nat×Nat) (fun a=>(base 18 14).on [(0,.str (s.drop a.1)),(2,.int .i64 0),(3,.int .i64 (a.2:Int))]) (fun _=>Heap.empty) (fun a=>a.1≤s.length∧a.2≤a.1∧wide s=a.2+wide (s.drop a.1)) (fun a=>s.length-a.1) (0,0) (Le.on [0,2,3] (by kernel_rfl)) rfl ⟨Nat.zero_le _,Nat.le_refl _,by rw [List.drop_zero,Nat.zero_add]⟩ ?_
 rintro ⟨k,n⟩ ⟨hk,hn,hw⟩
 simp only at hk hn hw ⊢
 have ho:=j40 (s.drop k)
 rw [List.length_drop] at ho
 refine Wc.seq (Wc.seq (Wc.wn0 [(0,(.str (List.drop k s))),(2,(.int .i64 0)),(3,(.int .i64 (n:Int))),(5,(.bool (!decide (List.drop k s=[]))))] Heap.empty ?_))
 refine Wc.condN (p:=List.drop k s=[]) (by kernel_rfl) (by kernel_rfl) (fun c1=>?_) (fun c1=>?_)
 ·refine Wc.skip (Wc.block (Wc.seq (Wc.enter (Wl.b0 0 2 [(6,(.str (List.drop k s))),(7,(.str (List.drop k s)))] ?_))))
  refine Wl.c 2 [(8,(.int .i64 ((one (List.drop k s):Int))))] (@Go.AM.c33 (List.drop k s)) ?_
  refine Wl.bs 3 6 [(0,(.str (List.drop (Int.toNat (max (one (List.drop k s):Int) 1)) (List.drop k s))))] [(((0:Int)≤max (one (List.drop k s):Int) (1:Int))∧(max (one (List.drop k s):Int) (1:Int)≤(List.length (List.drop k s):Int)))] (.cons (by have h1:=List.length_pos_iff.2 c1;rw [List.length_drop] at h1 ⊢;omega) .nil) ?_
  refine Wl.dn 6 (Wc.w [(3,(.int .i64 ((n:Int)+1)))] [(i64r ((n:Int)+1))] (.cons (by omega) .nil) ?_)
  have hne:s.drop k≠[]:=by assumption
  have hlt:k<s.length:=by
   rcases Nat.lt_or_ge k s.length with h | h
   ·exact h
   exact absurd (List.drop_eq_nil_of_le h) hne
  have hm:=xz0 hne
  have hm2:(max ((one (s.drop k):Nat):Int) 1).toNat=(dec (s.drop k)).2:=by omega
  have hd:=zt8 hne
  have hp:=z88 (s.drop k)
  rw [List.length_drop] at hd
  refine ⟨(k+(dec (s.drop k)).2,n+1),?_,rfl,⟨?_,?_,?_⟩,?_⟩
  ·simp only
   rw [← List.drop_drop,← hm2]
   exact Le.on [0,2,3] (by kernel_rfl)
  ·simp only;omega
  ·simp only;omega
  ·simp only
   rw [hw,qs7 hne,List.drop_drop];omega
  simp only;omega
 refine Wc.exit (z8.here (Wc.seq (Wc.w0 [(2,(.int .i64 (n:Int)))] ?_)))
 refine Wc.ret ?_
 refine retX.mk (.int .i64 (n:Int)) ⟨rfl,rfl⟩ (by kernel_rfl) ?_
 have hnil:s.drop k=[]:=by assumption
 refine congrArg (fun x=>some (V.int .i64 x)) ?_
 rw [hw,hnil,z06];rfl
end Go.AM
