/-
  WHAT FUNCTIONS OF THE PROGRAM COME TO: walked over states of which a part is known. No condition but what each theorem says of its arguments.
-/
import Derived.Test.YtejbaikaiifpaaaDoorLaysP7
namespace Go.AM
open Go.Proofs
set_option maxRecDepth 100000
set_option maxHeartbeats 4000000
theorem cPush4 {o0 o2:Obj} {l:List Th} {n:Nat} (ks:List Th) (hk:ks.length≤100000) (hn:n=l.length) (hl:n≤1000000):Cs Tryd.prog EU 30 [.ptr 1 0 0,.osl 6 (ks.map encT)] (hp [o0,.row 0 54 1 0 (some 1) [.sl 3 0 0 n none],o2,.row 0 57 6 0 none (l.map encT)]) undef (hp [o0,.row 0 54 1 0 (some 1) [.sl 3 ks.length 0 (n+ks.length) none],o2,.row ks.length 57 6 0 none (l.map encT++ks.reverse.map encT)]):=by
 refine Cs.body (fn:=Tryd.f30) Tryd.func30 rfl (by kernel_rfl) ?_
 refine Wc.seq (Wc.wn [(0,(.ptr 1 0 0)),(1,(.osl 6 (List.map encT ks))),(4,(.int .i64 ((List.length (List.map encT ks):Int)-1)))] (hp [(o0),.row 0 54 1 0 (some 1) [(.sl 3 0 0 (n) none)],(o2),.row 0 57 6 0 none (List.map encT l)]) [(((-9223372036854775808:Int)≤(List.length (List.map encT ks):Int)-1)∧((List.length (List.map encT ks):Int)-1≤(9223372036854775807:Int)))] (.cons (by (simp;omega)) .nil) ?_)
 refine Wc.block ?_
 have hkm:(ks.map encT).length=ks.length:=List.length_map _
 rw [hkm]
 have e0:(ks.length:Int)-1=(ks.length:Int)-1-((0:Nat):Int):=by simp
 rw [e0]
 refine Wc.loopV (α:=Nat) (fun j=>(base 30 25).on [(0,.ptr 1 0 0),(1,.osl 6 (ks.map encT)),(4,.int .i64 ((ks.length:Int)-1-(j:Int)))]) (fun j=>hp [o0,.row 0 54 1 0 (some 1) [.sl 3 j 0 (n+j) none],o2,.row j 57 6 0 none (l.map encT++(ks.reverse.take j).map encT)]) (fun j=>j≤ks.length) (fun j=>ks.length-j) 0 (Vw.trans (Vw.le (Le.on [0,1,4] (by kernel_rfl))) (Vw.eq rfl (by rw [List.take_zero,List.map_nil,List.append_nil];kernel_rfl))) (Nat.zero_le _) ?_
 intro j hj
 have hrl:(ks.reverse.take j).length=j:=by rw [List.length_take,List.length_reverse];omega
 generalize hts:ks.reverse.take j=ts at *
 refine Wc.seq (Wc.seq (Wc.wn0 [(0,(.ptr 1 0 0)),(1,(.osl 6 (List.map encT ks))),(4,(.int .i64 ((List.length ks:Int)-1-(j:Int)))),(9,(.bool (decide (0≤(List.length ks:Int)-1-(j:Int)))))] (hp [(o0),.row 0 54 1 0 (some 1) [(.sl 3 (j) 0 (n+j) none)],(o2),.row (j) 57 6 0 none (List.map encT l++List.map encT ts)]) ?_))
 refine Wc.cq (p:=0≤(List.length ks:Int)-1-(j:Int)) (fun c1=>?_) (fun c1=>?_)
 ·refine Wc.skip (Wc.seq (Wc.block (Wc.drawn0 (by kernel_rfl) ?_)))
  refine Dl.bs 0 8 [(12,(.ptr 1 0 0)),(16,(.sl 3 (j) 0 (n+j) none)),(19,(.gptr 6 (List.map encT ks) (Int.toNat ((List.length ks:Int)-1-(j:Int))*6)))] [((0≤(List.length ks:Int)-1-(j:Int))∧((List.length ks:Int)-1-(j:Int)<(List.length (List.map encT ks):Int)))] (.cons (by omega) .nil) ?_
  refine Dl.l 8 [(20,(.agg [(.int .i64 ((List.getD ks (Int.toNat ((List.length ks:Int)-1-(j:Int))) th0).d.kind)),(.str ((List.getD ks (Int.toNat ((List.length ks:Int)-1-(j:Int))) th0).d.text)),(.int .i64 ((List.getD ks (Int.toNat ((List.length ks:Int)-1-(j:Int))) th0).d.n)),(.osl 4 (esD (List.getD ks (Int.toNat ((List.length ks:Int)-1-(j:Int))) th0).d)),(.bool ((List.getD ks (Int.toNat ((List.length ks:Int)-1-(j:Int))) th0).flat)),(.int .i64 ((List.getD ks (Int.toNat ((List.length ks:Int)-1-(j:Int))) th0).n))]))] (@Go.AM.ldTh (hp [o0,Obj.row 0 54 1 0 (some 1) [V.sl 3 j 0 (n+j) none],o2,Obj.row j 57 6 0 none (List.map encT l++List.map encT ts)]) (ks) (Int.toNat ((List.length ks:Int)-1-(j:Int))) (by omega)) ?_
  refine Dl.bn 9 14 [] (hp [(o0),.row 0 54 1 0 (some 1) [(.sl 3 (Nat.succ j) 0 (n+j+List.length [V.agg [V.int .i64 (List.getD ks (Int.toNat ((List.length ks:Int)-1-(j:Int))) th0).d.kind,V.str (List.getD ks (Int.toNat ((List.length ks:Int)-1-(j:Int))) th0).d.text,V.int .i64 (List.getD ks (Int.toNat ((List.length ks:Int)-1-(j:Int))) th0).d.n,V.osl 4 (esD (List.getD ks (Int.toNat ((List.length ks:Int)-1-(j:Int))) th0).d),V.bool (List.getD ks (Int.toNat ((List.length ks:Int)-1-(j:Int))) th0).flat,V.int .i64 (List.getD ks (Int.toNat ((List.length ks:Int)-1-(j:Int))) th0).n]]) none)],(o2),.row (Nat.succ j) 57 6 0 none (List.map encT l++List.map encT ts++[V.agg [V.int .i64 (List.getD ks (Int.toNat ((List.length ks:Int)-1-(j:Int))) th0).d.kind,V.str (List.getD ks (Int.toNat ((List.length ks:Int)-1-(j:Int))) th0).d.text,V.int .i64 (List.getD ks (Int.toNat ((List.length ks:Int)-1-(j:Int))) th0).d.n,V.osl 4 (esD (List.getD ks (Int.toNat ((List.length ks:Int)-1-(j:Int))) th0).d),V.bool (List.getD ks (Int.toNat ((List.length ks:Int)-1-(j:Int))) th0).flat,V.int .i64 (List.getD ks (Int.toNat ((List.length ks:Int)-1-(j:Int))) th0).n]])]) [((j=j)∧(([V.agg [V.int .i64 (List.getD ks (Int.toNat ((List.length ks:Int)-1-(j:Int))) th0).d.kind,V.str (List.getD ks (Int.toNat ((List.length ks:Int)-1-(j:Int))) th0).d.text,V.int .i64 (List.getD ks (Int.toNat ((List.length ks:Int)-1-(j:Int))) th0).d.n,V.osl 4 (esD (List.getD ks (Int.toNat ((List.length ks:Int)-1-(j:Int))) th0).d),V.bool (List.getD ks (Int.toNat ((List.length ks:Int)-1-(j:Int))) th0).flat,V.int .i64 (List.getD ks (Int.toNat ((List.length ks:Int)-1-(j:Int))) th0).n]]≠[])∧((n+j=List.length (List.map encT l++List.map encT ts))∧(((0:Nat)≤n+j)∧((n+j+List.length [V.agg [V.int .i64 (List.getD ks (Int.toNat ((List.length ks:Int)-1-(j:Int))) th0).d.kind,V.str (List.getD ks (Int.toNat ((List.length ks:Int)-1-(j:Int))) th0).d.text,V.int .i64 (List.getD ks (Int.toNat ((List.length ks:Int)-1-(j:Int))) th0).d.n,V.osl 4 (esD (List.getD ks (Int.toNat ((List.length ks:Int)-1-(j:Int))) th0).d),V.bool (List.getD ks (Int.toNat ((List.length ks:Int)-1-(j:Int))) th0).flat,V.int .i64 (List.getD ks (Int.toNat ((List.length ks:Int)-1-(j:Int))) th0).n]]≤(1099511627776:Nat))∧((n+j+List.length [V.agg [V.int .i64 (List.getD ks (Int.toNat ((List.length ks:Int)-1-(j:Int))) th0).d.kind,V.str (List.getD ks (Int.toNat ((List.length ks:Int)-1-(j:Int))) th0).d.text,V.int .i64 (List.getD ks (Int.toNat ((List.length ks:Int)-1-(j:Int))) th0).d.n,V.osl 4 (esD (List.getD ks (Int.toNat ((List.length ks:Int)-1-(j:Int))) th0).d),V.bool (List.getD ks (Int.toNat ((List.length ks:Int)-1-(j:Int))) th0).flat,V.int .i64 (List.getD ks (Int.toNat ((List.length ks:Int)-1-(j:Int))) th0).n]])*72≤(1099511627776:Nat)))))))] (.cons (by exact ⟨rfl,by simp,by first | (simp;done) | (simp;omega),by omega,by simp only [List.length_cons,List.length_nil];omega,by simp only [List.length_cons,List.length_nil];omega⟩) .nil) ?_
  refine Dl.done 14 rfl ?_
  refine Wc.w [(4,(.int .i64 ((List.length ks:Int)-1-(j:Int)-1)))] [(i64r ((List.length ks:Int)-1-(j:Int)-1))] (.cons (by omega) .nil) ?_
  have hj':j<ks.length:=by omega
  have e1:(ks.length:Int)-1-((j+1:Nat):Int)=(ks.length:Int)-1-(j:Int)-1:=by omega
  have e2:Int.toNat ((ks.length:Int)-1-(j:Int))=ks.length-1-j:=by omega
  refine ⟨j+1,?_,by omega,by omega⟩
  simp only [e1,e2,qe8 hj',hts,List.map_append]
  rw [← List.append_assoc]
  exact Vw.trans (Vw.le (Le.on [0,1,4] (by kernel_rfl))) (Vw.eq rfl (by kernel_rfl))
 refine Wc.exit (z8.here ?_)
 refine retX.mk (.tup []) ⟨rfl,rfl⟩ (by kernel_rfl) ?_
 have hjj:j=ks.length:=by omega
 subst hjj
 rw [List.take_of_length_le (by simp)] at hts
 subst hts
 exact ⟨rfl,rfl⟩
theorem cPush5 {o0 o2 o4:Obj} {l:List Th} {n:Nat} (ks:List Th) (hk:ks.length≤100000) (hn:n=l.length) (hl:n≤1000000):Cs Tryd.prog EU 30 [.ptr 1 0 0,.osl 6 (ks.map encT)] (hp [o0,.row 0 54 1 0 (some 1) [.sl 3 0 0 n none],o2,.row 0 57 6 0 none (l.map encT),o4]) undef (hp [o0,.row 0 54 1 0 (some 1) [.sl 3 ks.length 0 (n+ks.length) none],o2,.row ks.length 57 6 0 none (l.map encT++ks.reverse.map encT),o4]):=by
 refine Cs.body (fn:=Tryd.f30) Tryd.func30 rfl (by kernel_rfl) ?_
 refine Wc.seq (Wc.wn [(0,(.ptr 1 0 0)),(1,(.osl 6 (List.map encT ks))),(4,(.int .i64 ((List.length (List.map encT ks):Int)-1)))] (hp [(o0),.row 0 54 1 0 (some 1) [(.sl 3 0 0 (n) none)],(o2),.row 0 57 6 0 none (List.map encT l),(o4)]) [(((-9223372036854775808:Int)≤(List.length (List.map encT ks):Int)-1)∧((List.length (List.map encT ks):Int)-1≤(9223372036854775807:Int)))] (.cons (by (simp;omega)) .nil) ?_)
 refine Wc.block ?_
 have hkm:(ks.map encT).length=ks.length:=List.length_map _
 rw [hkm]
 have e0:(ks.length:Int)-1=(ks.length:Int)-1-((0:Nat):Int):=by simp
 rw [e0]
 refine Wc.loopV (α:=Nat) (fun j=>(base 30 25).on [(0,.ptr 1 0 0),(1,.osl 6 (ks.map encT)),(4,.int .i64 ((ks.length:Int)-1-(j:Int)))]) (fun j=>hp [o0,.row 0 54 1 0 (some 1) [.sl 3 j 0 (n+j) none],o2,.row j 57 6 0 none (l.map encT++(ks.reverse.take j).map encT),o4]) (fun j=>j≤ks.length) (fun j=>ks.length-j) 0 (Vw.trans (Vw.le (Le.on [0,1,4] (by kernel_rfl))) (Vw.eq rfl (by rw [List.take_zero,List.map_nil,List.append_nil];kernel_rfl))) (Nat.zero_le _) ?_
 intro j hj
 have hrl:(ks.reverse.take j).length=j:=by rw [List.length_take,List.length_reverse];omega
 generalize hts:ks.reverse.take j=ts at *
 refine Wc.seq (Wc.seq (Wc.wn0 [(0,(.ptr 1 0 0)),(1,(.osl 6 (List.map encT ks))),(4,(.int .i64 ((List.length ks:Int)-1-(j:Int)))),(9,(.bool (decide (0≤(List.length ks:Int)-1-(j:Int)))))] (hp [(o0),.row 0 54 1 0 (some 1) [(.sl 3 (j) 0 (n+j) none)],(o2),.row (j) 57 6 0 none (List.map encT l++List.map encT ts),(o4)]) ?_))
 refine Wc.cq (p:=0≤(List.length ks:Int)-1-(j:Int)) (fun c1=>?_) (fun c1=>?_)
 ·refine Wc.skip (Wc.seq (Wc.block (Wc.drawn0 (by kernel_rfl) ?_)))
  refine Dl.bs 0 8 [(12,(.ptr 1 0 0)),(16,(.sl 3 (j) 0 (n+j) none)),(19,(.gptr 6 (List.map encT ks) (Int.toNat ((List.length ks:Int)-1-(j:Int))*6)))] [((0≤(List.length ks:Int)-1-(j:Int))∧((List.length ks:Int)-1-(j:Int)<(List.length (List.map encT ks):Int)))] (.cons (by omega) .nil) ?_
  refine Dl.l 8 [(20,(.agg [(.int .i64 ((List.getD ks (Int.toNat ((List.length ks:Int)-1-(j:Int))) th0).d.kind)),(.str ((List.getD ks (Int.toNat ((List.length ks:Int)-1-(j:Int))) th0).d.text)),(.int .i64 ((List.getD ks (Int.toNat ((List.length ks:Int)-1-(j:Int))) th0).d.n)),(.osl 4 (esD (List.getD ks (Int.toNat ((List.length ks:Int)-1-(j:Int))) th0).d)),(.bool ((List.getD ks (Int.toNat ((List.length ks:Int)-1-(j:Int))) th0).flat)),(.int .i64 ((List.getD ks (Int.toNat ((List.length ks:Int)-1-(j:Int))) th0).n))]))] (@Go.AM.ldTh (hp [o0,Obj.row 0 54 1 0 (some 1) [V.sl 3 j 0 (n+j) none],o2,Obj.row j 57 6 0 none (List.map encT l++List.map encT ts),o4]) (ks) (Int.toNat ((List.length ks:Int)-1-(j:Int))) (by omega)) ?_
  refine Dl.bn 9 14 [] (hp [(o0),.row 0 54 1 0 (some 1) [(.sl 3 (Nat.succ j) 0 (n+j+List.length [V.agg [V.int .i64 (List.getD ks (Int.toNat ((List.length ks:Int)-1-(j:Int))) th0).d.kind,V.str (List.getD ks (Int.toNat ((List.length ks:Int)-1-(j:Int))) th0).d.text,V.int .i64 (List.getD ks (Int.toNat ((List.length ks:Int)-1-(j:Int))) th0).d.n,V.osl 4 (esD (List.getD ks (Int.toNat ((List.length ks:Int)-1-(j:Int))) th0).d),V.bool (List.getD ks (Int.toNat ((List.length ks:Int)-1-(j:Int))) th0).flat,V.int .i64 (List.getD ks (Int.toNat ((List.length ks:Int)-1-(j:Int))) th0).n]]) none)],(o2),.row (Nat.succ j) 57 6 0 none (List.map encT l++List.map encT ts++[V.agg [V.int .i64 (List.getD ks (Int.toNat ((List.length ks:Int)-1-(j:Int))) th0).d.kind,V.str (List.getD ks (Int.toNat ((List.length ks:Int)-1-(j:Int))) th0).d.text,V.int .i64 (List.getD ks (Int.toNat ((List.length ks:Int)-1-(j:Int))) th0).d.n,V.osl 4 (esD (List.getD ks (Int.toNat ((List.length ks:Int)-1-(j:Int))) th0).d),V.bool (List.getD ks (Int.toNat ((List.length ks:Int)-1-(j:Int))) th0).flat,V.int .i64 (List.getD ks (Int.toNat ((List.length ks:Int)-1-(j:Int))) th0).n]]),(o4)]) [((j=j)∧(([V.agg [V.int .i64 (List.getD ks (Int.toNat ((List.length ks:Int)-1-(j:Int))) th0).d.kind,V.str (List.getD ks (Int.toNat ((List.length ks:Int)-1-(j:Int))) th0).d.text,V.int .i64 (List.getD ks (Int.toNat ((List.length ks:Int)-1-(j:Int))) th0).d.n,V.osl 4 (esD (List.getD ks (Int.toNat ((List.length ks:Int)-1-(j:Int))) th0).d),V.bool (List.getD ks (Int.toNat ((List.length ks:Int)-1-(j:Int))) th0).flat,V.int .i64 (List.getD ks (Int.toNat ((List.length ks:Int)-1-(j:Int))) th0).n]]≠[])∧((n+j=List.length (List.map encT l++List.map encT ts))∧(((0:Nat)≤n+j)∧((n+j+List.length [V.agg [V.int .i64 (List.getD ks (Int.toNat ((List.length ks:Int)-1-(j:Int))) th0).d.kind,V.str (List.getD ks (Int.toNat ((List.length ks:Int)-1-(j:Int))) th0).d.text,V.int .i64 (List.getD ks (Int.toNat ((List.length ks:Int)-1-(j:Int))) th0).d.n,V.osl 4 (esD (List.getD ks (Int.toNat ((List.length ks:Int)-1-(j:Int))) th0).d),V.bool (List.getD ks (Int.toNat ((List.length ks:Int)-1-(j:Int))) th0).flat,V.int .i64 (List.getD ks (Int.toNat ((List.length ks:Int)-1-(j:Int))) th0).n]]≤(1099511627776:Nat))∧((n+j+List.length [V.agg [V.int .i64 (List.getD ks (Int.toNat ((List.length ks:Int)-1-(j:Int))) th0).d.kind,V.str (List.getD ks (Int.toNat ((List.length ks:Int)-1-(j:Int))) th0).d.text,V.int .i64 (List.getD ks (Int.toNat ((List.length ks:Int)-1-(j:Int))) th0).d.n,V.osl 4 (esD (List.getD ks (Int.toNat ((List.length ks:Int)-1-(j:Int))) th0).d),V.bool (List.getD ks (Int.toNat ((List.length ks:Int)-1-(j:Int))) th0).flat,V.int .i64 (List.getD ks (Int.toNat ((List.length ks:Int)-1-(j:Int))) th0).n]])*72≤(1099511627776:Nat)))))))] (.cons (by exact ⟨rfl,by simp,by first | (simp;done) | (simp;omega),by omega,by simp only [List.length_cons,List.length_nil];omega,by simp only [List.length_cons,List.length_nil];omega⟩) .nil) ?_
  refine Dl.done 14 rfl ?_
  refine Wc.w [(4,(.int .i64 ((List.length ks:Int)-1-(j:Int)-1)))] [(i64r ((List.length ks:Int)-1-(j:Int)-1))] (.cons (by omega) .nil) ?_
  have hj':j<ks.length:=by omega
  have e1:(ks.length:Int)-1-((j+1:Nat):Int)=(ks.length:Int)-1-(j:Int)-1:=by omega
  have e2:Int.toNat ((ks.length:Int)-1-(j:Int))=ks.length-1-j:=by omega
  refine ⟨j+1,?_,by omega,by omega⟩
  simp only [e1,e2,qe8 hj',hts,List.map_append]
  rw [← List.append_assoc]
  exact Vw.trans (Vw.le (Le.on [0,1,4] (by kernel_rfl))) (Vw.eq rfl (by kernel_rfl))
 refine Wc.exit (z8.here ?_)
 refine retX.mk (.tup []) ⟨rfl,rfl⟩ (by kernel_rfl) ?_
 have hjj:j=ks.length:=by omega
 subst hjj
 rw [List.take_of_length_le (by simp)] at hts
 subst hts
 exact ⟨rfl,rfl⟩
theorem cPop4 {o0 o2:Obj} {l:List Th} {n:Nat} {t:Th} (hn:n=l.length+1) (hl:n≤1000000):Cs Tryd.prog EU 31 [.ptr 1 0 0] (hp [o0,.row 0 54 1 0 (some 1) [.sl 3 0 0 n none],o2,.row 0 57 6 0 none ((l++[t]).map encT)]) (.tup [encT t,.bool true]) (hp [o0,.row 0 54 1 0 (some 1) [.sl 3 0 0 l.length none],o2,.row 0 57 6 0 none ((l++[t]).map encT),.row 0 57 6 0 (some 1) [encT t]]):=by
 refine Cs.body (fn:=Tryd.f31) Tryd.func31 rfl (by kernel_rfl) ?_
 have hll:(l++[t]).length=n:=by rw [List.length_append,hn];rfl
 have hgt:(l++[t]).getD (Int.toNat ((n:Int)-1)) th0=t:=by rw [show Int.toNat ((n:Int)-1)=l.length by omega];simp
 have hnl:Int.toNat ((n:Int)-1)=l.length:=by omega
 generalize hlt:l++[t]=lt at *
 refine Wc.seq (Wc.wn0 [(0,(.ptr 1 0 0)),(2,(.ptr 4 0 0)),(3,(.bool false))] (hp [(o0),.row 0 54 1 0 (some 1) [(.sl 3 0 0 (n) none)],(o2),.row 0 57 6 0 none (List.map encT lt),.row 0 57 6 0 (some 1) [(.agg [(.int .i64 0),(.str []),(.int .i64 0),.nils,(.bool false),(.int .i64 0)])]]) ?_)
 refine Wc.seq (Wc.seq (Wc.w0 [(9,(.bool (decide ((n:Int)=0))))] ?_))
 refine Wc.cq (p:=(n:Int)=0) (fun c1=>absurd c1 (show ¬ ((n:Int)=0) from (by omega))) (fun c1=>?_)
 refine Wc.skip (Wc.seq (Wc.drawn0 (by kernel_rfl) ?_))
 refine Dl.bs 0 11 [(21,(.ptr 3 0 ((0+Int.toNat ((n:Int)-1))*6)))] [(i64r ((n:Int)-1)),((0≤(n:Int)-1)∧((n:Int)-1<(n:Int)))] (.cons (by omega) (.cons (by omega) .nil)) ?_
 refine Dl.l 11 [(22,(.agg [(.int .i64 ((List.getD lt (Int.toNat ((n:Int)-1)) th0).d.kind)),(.str ((List.getD lt (Int.toNat ((n:Int)-1)) th0).d.text)),(.int .i64 ((List.getD lt (Int.toNat ((n:Int)-1)) th0).d.n)),(.osl 4 (esD (List.getD lt (Int.toNat ((n:Int)-1)) th0).d)),(.bool ((List.getD lt (Int.toNat ((n:Int)-1)) th0).flat)),(.int .i64 ((List.getD lt (Int.toNat ((n:Int)-1)) th0).n))]))] (@Go.AM.ldThP (hp [o0,Obj.row 0 54 1 0 (some 1) [V.sl 3 0 0 n none],o2,Obj.row 0 57 6 0 none (List.map encT lt),Obj.row 0 57 6 0 (some 1) [V.agg [V.int .i64 0,V.str [],V.int .i64 0,V.nils,V.bool false,V.int .i64 0]]]) (3) (0) (Int.toNat ((n:Int)-1)) (0) (none) (lt) (by rfl) (by omega)) ?_
 refine Dl.bn0 12 13 [] (hp [(o0),.row 0 54 1 0 (some 1) [(.sl 3 0 0 (n) none)],(o2),.row 0 57 6 0 none (List.map encT lt),.row 0 57 6 0 (some 1) [(.agg [(.int .i64 ((List.getD lt (Int.toNat ((n:Int)-1)) th0).d.kind)),(.str ((List.getD lt (Int.toNat ((n:Int)-1)) th0).d.text)),(.int .i64 ((List.getD lt (Int.toNat ((n:Int)-1)) th0).d.n)),(.osl 4 (esD (List.getD lt (Int.toNat ((n:Int)-1)) th0).d)),(.bool ((List.getD lt (Int.toNat ((n:Int)-1)) th0).flat)),(.int .i64 ((List.getD lt (Int.toNat ((n:Int)-1)) th0).n))])]]) ?_
 refine Dl.done 13 rfl ?_
 refine Wc.seq (Wc.drawn0 (by kernel_rfl) ?_)
 refine Dl.bn 0 15 [] (hp [(o0),.row 0 54 1 0 (some 1) [(.sl 3 0 0 (Int.toNat ((n:Int)-1)) none)],(o2),.row 0 57 6 0 none (List.map encT lt),.row 0 57 6 0 (some 1) [(.agg [(.int .i64 ((List.getD lt (Int.toNat ((n:Int)-1)) th0).d.kind)),(.str ((List.getD lt (Int.toNat ((n:Int)-1)) th0).d.text)),(.int .i64 ((List.getD lt (Int.toNat ((n:Int)-1)) th0).d.n)),(.osl 4 (esD (List.getD lt (Int.toNat ((n:Int)-1)) th0).d)),(.bool ((List.getD lt (Int.toNat ((n:Int)-1)) th0).flat)),(.int .i64 ((List.getD lt (Int.toNat ((n:Int)-1)) th0).n))])]]) [(i64r ((n:Int)-1)),((0≤(n:Int)-1)∧((n:Int)-1≤(n:Int)))] (.cons (by omega) (.cons (by omega) .nil)) ?_
 refine Dl.done 15 rfl ?_
 refine Wc.seq (Wc.w0 [(3,(.bool true))] ?_)
 refine Wc.ret ?_
 refine retX.mk (.tup [(.agg [(.int .i64 ((List.getD lt (Int.toNat ((n:Int)-1)) th0).d.kind)),(.str ((List.getD lt (Int.toNat ((n:Int)-1)) th0).d.text)),(.int .i64 ((List.getD lt (Int.toNat ((n:Int)-1)) th0).d.n)),(.osl 4 (esD (List.getD lt (Int.toNat ((n:Int)-1)) th0).d)),(.bool ((List.getD lt (Int.toNat ((n:Int)-1)) th0).flat)),(.int .i64 ((List.getD lt (Int.toNat ((n:Int)-1)) th0).n))]),(.bool true)]) ⟨rfl,rfl⟩ (by kernel_rfl) ?_
 rw [hnl] at hgt
 simp only [hnl,hgt]
 exact ⟨rfl,rfl⟩
theorem cPop4N {o0 o2:Obj} {es:List V}:Cs Tryd.prog EU 31 [.ptr 1 0 0] (hp [o0,.row 0 54 1 0 (some 1) [.sl 3 0 0 0 none],o2,.row 0 57 6 0 none es]) (.tup [.agg [.int .i64 0,.str [],.int .i64 0,.nils,.bool false,.int .i64 0],.bool false]) (hp [o0,.row 0 54 1 0 (some 1) [.sl 3 0 0 0 none],o2,.row 0 57 6 0 none es,.row 0 57 6 0 (some 1) [.agg [.int .i64 0,.str [],.int .i64 0,.nils,.bool false,.int .i64 0]]]):=by
 refine Cs.body (fn:=Tryd.f31) Tryd.func31 rfl (by kernel_rfl) ?_
 refine Wc.seq (Wc.wn0 [(0,(.ptr 1 0 0)),(2,(.ptr 4 0 0)),(3,(.bool false))] (hp [(o0),.row 0 54 1 0 (some 1) [(.sl 3 0 0 0 none)],(o2),.row 0 57 6 0 none (es),.row 0 57 6 0 (some 1) [(.agg [(.int .i64 0),(.str []),(.int .i64 0),.nils,(.bool false),(.int .i64 0)])]]) ?_)
 refine Wc.seq (Wc.seq (Wc.w0 [(9,(.bool true))] ?_))
 refine Wc.ct (Wc.seq (Wc.w0 [] ?_))
 refine Wc.ret ?_
 refine retX.mk (.tup [(.agg [(.int .i64 0),(.str []),(.int .i64 0),.nils,(.bool false),(.int .i64 0)]),(.bool false)]) ⟨rfl,rfl⟩ (by kernel_rfl) ?_
 exact ⟨by kernel_rfl,by kernel_rfl⟩
theorem cPop5 {o0 o2 o4:Obj} {l:List Th} {n:Nat} {t:Th} (hn:n=l.length+1) (hl:n≤1000000):Cs Tryd.prog EU 31 [.ptr 1 0 0] (hp [o0,.row 0 54 1 0 (some 1) [.sl 3 0 0 n none],o2,.row 0 57 6 0 none ((l++[t]).map encT),o4]) (.tup [encT t,.bool true]) (hp [o0,.row 0 54 1 0 (some 1) [.sl 3 0 0 l.length none],o2,.row 0 57 6 0 none ((l++[t]).map encT),o4,.row 0 57 6 0 (some 1) [encT t]]):=by
 refine Cs.body (fn:=Tryd.f31) Tryd.func31 rfl (by kernel_rfl) ?_
 have hll:(l++[t]).length=n:=by rw [List.length_append,hn];rfl
 have hgt:(l++[t]).getD (Int.toNat ((n:Int)-1)) th0=t:=by rw [show Int.toNat ((n:Int)-1)=l.length by omega];simp
 have hnl:Int.toNat ((n:Int)-1)=l.length:=by omega
 generalize hlt:l++[t]=lt at *
 refine Wc.seq (Wc.wn0 [(0,(.ptr 1 0 0)),(2,(.ptr 5 0 0)),(3,(.bool false))] (hp [(o0),.row 0 54 1 0 (some 1) [(.sl 3 0 0 (n) none)],(o2),.row 0 57 6 0 none (List.map encT lt),(o4),.row 0 57 6 0 (some 1) [(.agg [(.int .i64 0),(.str []),(.int .i64 0),.nils,(.bool false),(.int .i64 0)])]]) ?_)
 refine Wc.seq (Wc.seq (Wc.w0 [(9,(.bool (decide ((n:Int)=0))))] ?_))
 refine Wc.cq (p:=(n:Int)=0) (fun c1=>absurd c1 (show ¬ ((n:Int)=0) from (by omega))) (fun c1=>?_)
 refine Wc.skip (Wc.seq (Wc.drawn0 (by kernel_rfl) ?_))
 refine Dl.bs 0 11 [(21,(.ptr 3 0 ((0+Int.toNat ((n:Int)-1))*6)))] [(i64r ((n:Int)-1)),((0≤(n:Int)-1)∧((n:Int)-1<(n:Int)))] (.cons (by omega) (.cons (by omega) .nil)) ?_
 refine Dl.l 11 [(22,(.agg [(.int .i64 ((List.getD lt (Int.toNat ((n:Int)-1)) th0).d.kind)),(.str ((List.getD lt (Int.toNat ((n:Int)-1)) th0).d.text)),(.int .i64 ((List.getD lt (Int.toNat ((n:Int)-1)) th0).d.n)),(.osl 4 (esD (List.getD lt (Int.toNat ((n:Int)-1)) th0).d)),(.bool ((List.getD lt (Int.toNat ((n:Int)-1)) th0).flat)),(.int .i64 ((List.getD lt (Int.toNat ((n:Int)-1)) th0).n))]))] (@Go.AM.ldThP (hp [o0,Obj.row 0 54 1 0 (some 1) [V.sl 3 0 0 n none],o2,Obj.row 0 57 6 0 none (List.map encT lt),o4,Obj.row 0 57 6 0 (some 1) [V.agg [V.int .i64 0,V.str [],V.int .i64 0,V.nils,V.bool false,V.int .i64 0]]]) (3) (0) (Int.toNat ((n:Int)-1)) (0) (none) (lt) (by rfl) (by omega)) ?_
 refine Dl.bn0 12 13 [] (hp [(o0),.row 0 54 1 0 (some 1) [(.sl 3 0 0 (n) none)],(o2),.row 0 57 6 0 none (List.map encT lt),(o4),.row 0 57 6 0 (some 1) [(.agg [(.int .i64 ((List.getD lt (Int.toNat ((n:Int)-1)) th0).d.kind)),(.str ((List.getD lt (Int.toNat ((n:Int)-1)) th0).d.text)),(.int .i64 ((List.getD lt (Int.toNat ((n:Int)-1)) th0).d.n)),(.osl 4 (esD (List.getD lt (Int.toNat ((n:Int)-1)) th0).d)),(.bool ((List.getD lt (Int.toNat ((n:Int)-1)) th0).flat)),(.int .i64 ((List.getD lt (Int.toNat ((n:Int)-1)) th0).n))])]]) ?_
 refine Dl.done 13 rfl ?_
 refine Wc.seq (Wc.drawn0 (by kernel_rfl) ?_)
 refine Dl.bn 0 15 [] (hp [(o0),.row 0 54 1 0 (some 1) [(.sl 3 0 0 (Int.toNat ((n:Int)-1)) none)],(o2),.row 0 57 6 0 none (List.map encT lt),(o4),.row 0 57 6 0 (some 1) [(.agg [(.int .i64 ((List.getD lt (Int.toNat ((n:Int)-1)) th0).d.kind)),(.str ((List.getD lt (Int.toNat ((n:Int)-1)) th0).d.text)),(.int .i64 ((List.getD lt (Int.toNat ((n:Int)-1)) th0).d.n)),(.osl 4 (esD (List.getD lt (Int.toNat ((n:Int)-1)) th0).d)),(.bool ((List.getD lt (Int.toNat ((n:Int)-1)) th0).flat)),(.int .i64 ((List.getD lt (Int.toNat ((n:Int)-1)) th0).n))])]]) [(i64r ((n:Int)-1)),((0≤(n:Int)-1)∧((n:Int)-1≤(n:Int)))] (.cons (by omega) (.cons (by omega) .nil)) ?_
 refine Dl.done 15 rfl ?_
 refine Wc.seq (Wc.w0 [(3,(.bool true))] ?_)
 refine Wc.ret ?_
 refine retX.mk (.tup [(.agg [(.int .i64 ((List.getD lt (Int.toNat ((n:Int)-1)) th0).d.kind)),(.str ((List.getD lt (Int.toNat ((n:Int)-1)) th0).d.text)),(.int .i64 ((List.getD lt (Int.toNat ((n:Int)-1)) th0).d.n)),(.osl 4 (esD (List.getD lt (Int.toNat ((n:Int)-1)) th0).d)),(.bool ((List.getD lt (Int.toNat ((n:Int)-1)) th0).flat)),(.int .i64 ((List.getD lt (Int.toNat ((n:Int)-1)) th0).n))]),(.bool true)]) ⟨rfl,rfl⟩ (by kernel_rfl) ?_
 rw [hnl] at hgt
 simp only [hnl,hgt]
 exact ⟨rfl,rfl⟩
theorem cPop5N {o0 o2 o4:Obj} {es:List V}:Cs Tryd.prog EU 31 [.ptr 1 0 0] (hp [o0,.row 0 54 1 0 (some 1) [.sl 3 0 0 0 none],o2,.row 0 57 6 0 none es,o4]) (.tup [.agg [.int .i64 0,.str [],.int .i64 0,.nils,.bool false,.int .i64 0],.bool false]) (hp [o0,.row 0 54 1 0 (some 1) [.sl 3 0 0 0 none],o2,.row 0 57 6 0 none es,o4,.row 0 57 6 0 (some 1) [.agg [.int .i64 0,.str [],.int .i64 0,.nils,.bool false,.int .i64 0]]]):=by
 refine Cs.body (fn:=Tryd.f31) Tryd.func31 rfl (by kernel_rfl) ?_
 refine Wc.seq (Wc.wn0 [(0,(.ptr 1 0 0)),(2,(.ptr 5 0 0)),(3,(.bool false))] (hp [(o0),.row 0 54 1 0 (some 1) [(.sl 3 0 0 0 none)],(o2),.row 0 57 6 0 none (es),(o4),.row 0 57 6 0 (some 1) [(.agg [(.int .i64 0),(.str []),(.int .i64 0),.nils,(.bool false),(.int .i64 0)])]]) ?_)
 refine Wc.seq (Wc.seq (Wc.w0 [(9,(.bool true))] ?_))
 refine Wc.ct (Wc.seq (Wc.w0 [] ?_))
 refine Wc.ret ?_
 refine retX.mk (.tup [(.agg [(.int .i64 0),(.str []),(.int .i64 0),.nils,(.bool false),(.int .i64 0)]),(.bool false)]) ⟨rfl,rfl⟩ (by kernel_rfl) ?_
 exact ⟨by kernel_rfl,by kernel_rfl⟩
end Go.AM
namespace Go.AM
open Go.Proofs
set_option maxRecDepth 100000
set_option maxHeartbeats 4000000
theorem c74 {h:Heap} {r v o:Nat}:Cs Tryd.prog EU 74 [.ptr r v o] h (.ptr r v o) h:=Cs.ext (fn:=Tryd.f74) Tryd.func74 rfl rfl
theorem zd2 (s:List UInt8):List.length (mapB s)=s.length:=by rw [qp1,List.length_map]
theorem x74 {s:List UInt8} (h:s≠[]):mapB s≠[]:=fun e=>h (List.eq_nil_of_length_eq_zero (by rw [← zd2,e];rfl))
theorem xd5 (s:List UInt8):q65 s=decide (0≤j6 10 s):=by
 unfold q65
 congr 1
 rw [eq_iff_iff]
 induction s with
 | nil=>simp [j6]
 | cons b l IH =>
  rw [List.mem_cons,IH]
  have h:=(ze2 10 l).1
  simp only [j6]
  by_cases h1:0≤j6 10 l
  ·rw [if_pos h1]
   constructor
   ·intro _;omega
   ·intro _;exact .inr h1
  ·rw [if_neg h1]
   by_cases h2:b=10
   ·rw [if_pos h2];simp [h2]
   ·rw [if_neg h2]
    constructor
    ·rintro (e | e)
     ·exact absurd e.symm h2
     ·exact absurd e h1
    ·intro e;omega
theorem zf4 (s:List UInt8):q70 s=s.drop (Int.toNat (j6 10 s+1)):=by
 unfold q70
 have h:=xp5 s s.length (Nat.le_refl _)
 rw [List.take_length] at h
 congr 1;omega
theorem zj4 (s:List UInt8) (col:Int):colS s col=if 0≤j6 10 s then (wide (s.drop (Int.toNat (j6 10 s+1))):Int) else col+(wide s:Int):=by
 unfold colS
 rw [xd5,zf4]
 by_cases h:0≤j6 10 s <;> simp [h]
theorem cSayN {o1 o2 o3:Obj} {col:Int} {s:List UInt8} (hs:s≠[]) (hl:s.length≤1000000) (hc:0≤col∧col≤1000000000):Cs Tryd.prog EU 32 [.ptr 0 0 0,.str s] (hp [.row 0 51 3 0 (some 1) [.agg [.nilp,.nils,.int .i64 col]],o1,o2,o3]) undef (hp [.row 0 51 3 0 (some 1) [.agg [.ptr 0 0 0,.sl 4 0 0 s.length none,.int .i64 (colS s col)]],o1,o2,o3,.row 0 5 1 0 none (s.map bV)]):=by
 refine Cs.body (fn:=Tryd.f32) Tryd.func32 rfl (by kernel_rfl) ?_
 have hne:=x74 hs
 have hml:=zd2 s
 have hmb:mapB s=s.map bV:=qp1 s
 have hlb:=ze2 10 s
 have hw1:=q15 s
 have hw2:=q15 (s.drop (Int.toNat (j6 10 s+1)))
 rw [List.length_drop] at hw2
 refine Wc.seq (Wc.enter (Wl.bn0 0 4 [(0,(.ptr 0 0 0)),(1,(.str s)),(7,(.ptr 0 0 0)),(8,(.str s))] (hp [.row 0 51 3 0 (some 1) [(.agg [.nilp,.nils,(.int .i64 (col))])],(o1),(o2),(o3)]) ?_))
 refine Wl.callI (b:=(base 32 30)) (h1:=(hp [.row 0 51 3 0 (some 1) [(.agg [.nilp,.nils,(.int .i64 (col))])],(o1),(o2),(o3)])) (args:=[(.ptr 0 0 0),(.str s)]) (d:=(some 9)) (fn:=Go.Proofs.Tryd.f50) 4 Go.Proofs.Tryd.func50 rfl (by kernel_rfl) (by kernel_rfl) ?_
 refine Wc.seq (Wc.wn0 [(0,(.ptr 0 0 0)),(1,(.str s)),(4,(.int .i64 0)),(5,.nili)] (hp [.row 0 51 3 0 (some 1) [(.agg [.nilp,.nils,(.int .i64 (col))])],(o1),(o2),(o3)]) ?_)
 refine Wc.seq (Wc.enter (Wl.b0 0 1 [(6,(.ptr 0 0 0))] ?_))
 refine Wl.callI (b:=(base 50 19)) (h1:=(hp [.row 0 51 3 0 (some 1) [(.agg [.nilp,.nils,(.int .i64 (col))])],(o1),(o2),(o3)])) (args:=[(.ptr 0 0 0)]) (d:=(some 7)) (fn:=Go.Proofs.Tryd.f62) 1 Go.Proofs.Tryd.func62 rfl (by kernel_rfl) (by kernel_rfl) ?_
 refine Wc.seq (Wc.wn0 [(0,(.ptr 0 0 0)),(6,(.bool true))] (hp [.row 0 51 3 0 (some 1) [(.agg [.nilp,.nils,(.int .i64 (col))])],(o1),(o2),(o3)]) ?_)
 refine Wc.ct (Wc.enter (Wl.b0 0 3 [(7,(.ptr 0 0 0)),(9,(.ptr 0 0 0))] ?_))
 refine Wl.s 3 [(10,(.ptr 0 0 0))] (@Go.AM.c74 (hp [Obj.row 0 51 3 0 (some 1) [V.agg [V.nilp,V.nils,V.int .i64 col]],o1,o2,o3]) (0) (0) (0)) ?_
 refine Wl.bn0 4 8 [] (hp [.row 0 51 3 0 (some 1) [(.agg [(.ptr 0 0 0),.nils,(.int .i64 (col))])],(o1),(o2),(o3)]) ?_
 refine Wl.dn 8 ?_
 refine retX.mk (.tup []) ⟨rfl,rfl⟩ (by kernel_rfl) ?_
 refine q60.mk [0,1,4,5] [(0,(.ptr 0 0 0)),(1,(.str s)),(4,(.int .i64 0)),(5,.nili)] (by kernel_rfl) ?_
 refine Wl.dn 2 (Wc.seq (Wc.wn [] (hp [.row 0 51 3 0 (some 1) [(.agg [(.ptr 0 0 0),(.sl 4 0 0 (List.length (mapB s)) none),(.int .i64 (col))])],(o1),(o2),(o3),.row 0 5 1 0 none (mapB s)]) [((mapB s≠[])∧((List.length (mapB s)≤1099511627776)∧(List.length (mapB s)*1≤(1099511627776:Nat))))] (.cons (⟨hne,by omega,by omega⟩) .nil) ?_))
 refine Wc.seq (Wc.w0 [(4,(.int .i64 ((List.length s:Int))))] ?_)
 refine Wc.ret ?_
 refine retX.mk (.tup [(.int .i64 ((List.length s:Int))),.nili]) ⟨rfl,rfl⟩ (by kernel_rfl) ?_
 refine q60.mk [0,1] [(0,(.ptr 0 0 0)),(1,(.str s))] (by kernel_rfl) ?_
 refine Wl.dn 5 (Wc.seq (Wc.seq (Wc.enter (Wl.bn0 0 1 [(10,(.str s))] (hp [.row 0 51 3 0 (some 1) [(.agg [(.ptr 0 0 0),(.sl 4 0 0 (List.length (mapB s)) none),(.int .i64 (col))])],(o1),(o2),(o3),.row 0 5 1 0 none (mapB s)]) ?_))))
 refine Wl.c 1 [(11,(.int .i64 (j6 10 s)))] (@Go.AM.c18 (s) (by omega)) ?_
 refine Wl.b0 2 3 [(4,(.int .i64 (j6 10 s)))] ?_
 refine Wl.dn 3 (Wc.seq (Wc.w0 [(13,(.bool (decide (0≤j6 10 s))))] ?_))
 refine Wc.cq (p:=0≤j6 10 s) (fun c1=>?_) (fun c1=>?_)
 ·refine Wc.drawn0 (by kernel_rfl) ?_
  refine Dl.bn 0 9 [(1,(.str (List.drop (Int.toNat (j6 10 s+1)) s)))] (hp [.row 0 51 3 0 (some 1) [(.agg [(.ptr 0 0 0),(.sl 4 0 0 (List.length (mapB s)) none),(.int .i64 0)])],(o1),(o2),(o3),.row 0 5 1 0 none (mapB s)]) [(i64r (j6 10 s+1)),(((0:Int)≤j6 10 s+1)∧(j6 10 s+1≤(List.length s:Int)))] (.cons (by omega) (.cons (by omega) .nil)) ?_
  refine Dl.done 9 rfl ?_
  refine Wc.drawnP 28 [(.str (List.drop (Int.toNat (j6 10 s+1)) s))] (.int .i64 ((wide (List.drop (Int.toNat (j6 10 s+1)) s):Int))) (@Go.AM.c16 (List.drop (Int.toNat (j6 10 s+1)) s) (by (simp only [List.length_drop] at *;omega))) (by kernel_rfl) ?_
  refine Dl.b0 0 5 [(21,(.ptr 0 0 0)),(24,(.int .i64 0)),(25,(.str (List.drop (Int.toNat (j6 10 s+1)) s)))] ?_
  refine Dl.c 5 [(26,(.int .i64 ((wide (List.drop (Int.toNat (j6 10 s+1)) s):Int))))] q97 (by rfl) ?_
  refine Dl.bn 6 10 [] (hp [.row 0 51 3 0 (some 1) [(.agg [(.ptr 0 0 0),(.sl 4 0 0 (List.length (mapB s)) none),(.int .i64 (0+(wide (List.drop (Int.toNat (j6 10 s+1)) s):Int)))])],(o1),(o2),(o3),.row 0 5 1 0 none (mapB s)]) [(i64r ((0:Int)+(wide (List.drop (Int.toNat (j6 10 s+1)) s):Int)))] (.cons (by omega) .nil) ?_
  refine Dl.done 10 rfl ?_
  refine retX.mk (.tup []) ⟨rfl,rfl⟩ (by kernel_rfl) ?_
  rw [zj4,if_pos (by omega),hml,hmb,Int.zero_add];exact ⟨rfl,rfl⟩
 refine Wc.skip (Wc.drawnP 28 [(.str s)] (.int .i64 ((wide s:Int))) (@Go.AM.c16 (s) (by omega)) (by kernel_rfl) ?_)
 refine Dl.b0 0 5 [(21,(.ptr 0 0 0)),(24,(.int .i64 (col))),(25,(.str s))] ?_
 refine Dl.c 5 [(26,(.int .i64 ((wide s:Int))))] q97 (by rfl) ?_
 refine Dl.bn 6 10 [] (hp [.row 0 51 3 0 (some 1) [(.agg [(.ptr 0 0 0),(.sl 4 0 0 (List.length (mapB s)) none),(.int .i64 (col+(wide s:Int)))])],(o1),(o2),(o3),.row 0 5 1 0 none (mapB s)]) [(i64r (col+(wide s:Int)))] (.cons (by omega) .nil) ?_
 refine Dl.done 10 rfl ?_
 refine retX.mk (.tup []) ⟨rfl,rfl⟩ (by kernel_rfl) ?_
 rw [zj4,if_neg (by omega),hml,hmb];exact ⟨rfl,rfl⟩
theorem cSayB {o1 o2 o3:Obj} {col:Int} {n:Nat} {out s:List UInt8} (hn:n=out.length) (hs:s≠[]) (hl:s.length≤1000000) (ho:n≤1000000000) (hc:0≤col∧col≤1000000000):Cs Tryd.prog EU 32 [.ptr 0 0 0,.str s] (hp [.row 0 51 3 0 (some 1) [.agg [.ptr 0 0 0,.sl 4 0 0 n none,.int .i64 col]],o1,o2,o3,.row 0 5 1 0 none (out.map bV)]) undef (hp [.row 0 51 3 0 (some 1) [.agg [.ptr 0 0 0,.sl 4 1 0 (n+s.length) none,.int .i64 (colS s col)]],o1,o2,o3,.row 1 5 1 0 none (out.map bV++s.map bV)]):=by
 refine Cs.body (fn:=Tryd.f32) Tryd.func32 rfl (by kernel_rfl) ?_
 have hne:=x74 hs
 have hml:=zd2 s
 have hmb:mapB s=s.map bV:=qp1 s
 have hlb:=ze2 10 s
 have hw1:=q15 s
 have hw2:=q15 (s.drop (Int.toNat (j6 10 s+1)))
 rw [List.length_drop] at hw2
 have hob:(out.map bV).length=out.length:=List.length_map _
 refine Wc.seq (Wc.enter (Wl.bn0 0 4 [(0,(.ptr 0 0 0)),(1,(.str s)),(7,(.ptr 0 0 0)),(8,(.str s))] (hp [.row 0 51 3 0 (some 1) [(.agg [(.ptr 0 0 0),(.sl 4 0 0 (n) none),(.int .i64 (col))])],(o1),(o2),(o3),.row 0 5 1 0 none (List.map bV out)]) ?_))
 refine Wl.callI (b:=(base 32 30)) (h1:=(hp [.row 0 51 3 0 (some 1) [(.agg [(.ptr 0 0 0),(.sl 4 0 0 (n) none),(.int .i64 (col))])],(o1),(o2),(o3),.row 0 5 1 0 none (List.map bV out)])) (args:=[(.ptr 0 0 0),(.str s)]) (d:=(some 9)) (fn:=Go.Proofs.Tryd.f50) 4 Go.Proofs.Tryd.func50 rfl (by kernel_rfl) (by kernel_rfl) ?_
 refine Wc.seq (Wc.wn0 [(0,(.ptr 0 0 0)),(1,(.str s)),(4,(.int .i64 0)),(5,.nili)] (hp [.row 0 51 3 0 (some 1) [(.agg [(.ptr 0 0 0),(.sl 4 0 0 (n) none),(.int .i64 (col))])],(o1),(o2),(o3),.row 0 5 1 0 none (List.map bV out)]) ?_)
 refine Wc.seq (Wc.enter (Wl.b0 0 1 [(6,(.ptr 0 0 0))] ?_))
 refine Wl.callI (b:=(base 50 19)) (h1:=(hp [.row 0 51 3 0 (some 1) [(.agg [(.ptr 0 0 0),(.sl 4 0 0 (n) none),(.int .i64 (col))])],(o1),(o2),(o3),.row 0 5 1 0 none (List.map bV out)])) (args:=[(.ptr 0 0 0)]) (d:=(some 7)) (fn:=Go.Proofs.Tryd.f62) 1 Go.Proofs.Tryd.func62 rfl (by kernel_rfl) (by kernel_rfl) ?_
 refine Wc.seq (Wc.wn0 [(0,(.ptr 0 0 0)),(6,(.bool false))] (hp [.row 0 51 3 0 (some 1) [(.agg [(.ptr 0 0 0),(.sl 4 0 0 (n) none),(.int .i64 (col))])],(o1),(o2),(o3),.row 0 5 1 0 none (List.map bV out)]) ?_)
 refine Wc.cf (Wc.seq (Wc.w0 [(19,(.bool false))] ?_))
 refine Wc.cf (Wc.skip ?_)
 refine retX.mk (.tup []) ⟨rfl,rfl⟩ (by kernel_rfl) ?_
 refine q60.mk [0,1,4,5] [(0,(.ptr 0 0 0)),(1,(.str s)),(4,(.int .i64 0)),(5,.nili)] (by kernel_rfl) ?_
 refine Wl.dn 2 (Wc.seq (Wc.wn [] (hp [.row 0 51 3 0 (some 1) [(.agg [(.ptr 0 0 0),(.sl 4 1 0 (n+List.length (mapB s)) none),(.int .i64 (col))])],(o1),(o2),(o3),.row 1 5 1 0 none (List.map bV out++mapB s)]) [(((0:Nat)=0)∧((mapB s≠[])∧((n=List.length (List.map bV out))∧(((0:Nat)≤n)∧((n+List.length (mapB s)≤1099511627776)∧((n+List.length (mapB s))*1≤(1099511627776:Nat)))))))] (.cons (⟨rfl,hne,by omega,by omega,by omega,by omega⟩) .nil) ?_))
 refine Wc.seq (Wc.w0 [(4,(.int .i64 ((List.length s:Int))))] ?_)
 refine Wc.ret ?_
 refine retX.mk (.tup [(.int .i64 ((List.length s:Int))),.nili]) ⟨rfl,rfl⟩ (by kernel_rfl) ?_
 refine q60.mk [0,1] [(0,(.ptr 0 0 0)),(1,(.str s))] (by kernel_rfl) ?_
 refine Wl.dn 5 (Wc.seq (Wc.seq (Wc.enter (Wl.bn0 0 1 [(10,(.str s))] (hp [.row 0 51 3 0 (some 1) [(.agg [(.ptr 0 0 0),(.sl 4 1 0 (n+List.length (mapB s)) none),(.int .i64 (col))])],(o1),(o2),(o3),.row 1 5 1 0 none (List.map bV out++mapB s)]) ?_))))
 refine Wl.c 1 [(11,(.int .i64 (j6 10 s)))] (@Go.AM.c18 (s) (by omega)) ?_
 refine Wl.b0 2 3 [(4,(.int .i64 (j6 10 s)))] ?_
 refine Wl.dn 3 (Wc.seq (Wc.w0 [(13,(.bool (decide (0≤j6 10 s))))] ?_))
 refine Wc.cq (p:=0≤j6 10 s) (fun c1=>?_) (fun c1=>?_)
 ·refine Wc.drawn0 (by kernel_rfl) ?_
  refine Dl.bn 0 9 [(1,(.str (List.drop (Int.toNat (j6 10 s+1)) s)))] (hp [.row 0 51 3 0 (some 1) [(.agg [(.ptr 0 0 0),(.sl 4 1 0 (n+List.length (mapB s)) none),(.int .i64 0)])],(o1),(o2),(o3),.row 1 5 1 0 none (List.map bV out++mapB s)]) [(i64r (j6 10 s+1)),(((0:Int)≤j6 10 s+1)∧(j6 10 s+1≤(List.length s:Int)))] (.cons (by omega) (.cons (by omega) .nil)) ?_
  refine Dl.done 9 rfl ?_
  refine Wc.drawnP 28 [(.str (List.drop (Int.toNat (j6 10 s+1)) s))] (.int .i64 ((wide (List.drop (Int.toNat (j6 10 s+1)) s):Int))) (@Go.AM.c16 (List.drop (Int.toNat (j6 10 s+1)) s) (by (simp only [List.length_drop] at *;omega))) (by kernel_rfl) ?_
  refine Dl.b0 0 5 [(21,(.ptr 0 0 0)),(24,(.int .i64 0)),(25,(.str (List.drop (Int.toNat (j6 10 s+1)) s)))] ?_
  refine Dl.c 5 [(26,(.int .i64 ((wide (List.drop (Int.toNat (j6 10 s+1)) s):Int))))] q97 (by rfl) ?_
  refine Dl.bn 6 10 [] (hp [.row 0 51 3 0 (some 1) [(.agg [(.ptr 0 0 0),(.sl 4 1 0 (n+List.length (mapB s)) none),(.int .i64 (0+(wide (List.drop (Int.toNat (j6 10 s+1)) s):Int)))])],(o1),(o2),(o3),.row 1 5 1 0 none (List.map bV out++mapB s)]) [(i64r ((0:Int)+(wide (List.drop (Int.toNat (j6 10 s+1)) s):Int)))] (.cons (by omega) .nil) ?_
  refine Dl.done 10 rfl ?_
  refine retX.mk (.tup []) ⟨rfl,rfl⟩ (by kernel_rfl) ?_
  rw [zj4,if_pos (by omega),hml,hmb,Int.zero_add];exact ⟨rfl,rfl⟩
 refine Wc.skip (Wc.drawnP 28 [(.str s)] (.int .i64 ((wide s:Int))) (@Go.AM.c16 (s) (by omega)) (by kernel_rfl) ?_)
 refine Dl.b0 0 5 [(21,(.ptr 0 0 0)),(24,(.int .i64 (col))),(25,(.str s))] ?_
 refine Dl.c 5 [(26,(.int .i64 ((wide s:Int))))] q97 (by rfl) ?_
 refine Dl.bn 6 10 [] (hp [.row 0 51 3 0 (some 1) [(.agg [(.ptr 0 0 0),(.sl 4 1 0 (n+List.length (mapB s)) none),(.int .i64 (col+(wide s:Int)))])],(o1),(o2),(o3),.row 1 5 1 0 none (List.map bV out++mapB s)]) [(i64r (col+(wide s:Int)))] (.cons (by omega) .nil) ?_
 refine Dl.done 10 rfl ?_
 refine retX.mk (.tup []) ⟨rfl,rfl⟩ (by kernel_rfl) ?_
 rw [zj4,if_neg (by omega),hml,hmb];exact ⟨rfl,rfl⟩
end Go.AM
namespace Go.AM
open Go.Proofs
set_option maxRecDepth 100000
set_option maxHeartbeats 4000000
theorem cPushF3 {mo:V} {o2:Obj} {l:List Th} {n:Nat} (ks:List Th) (hk:ks.length≤100000) (hn:n=l.length) (hl:n≤1000000):Cs Tryd.prog EU 30 [.ptr 0 0 0,.osl 6 (ks.map encT)] (hp [.row 0 98 2 0 (some 1) [.agg [.sl 1 0 0 n none,mo]],.row 0 57 6 0 none (l.map encT),o2]) undef (hp [.row 0 98 2 0 (some 1) [.agg [.sl 1 ks.length 0 (n+ks.length) none,mo]],.row ks.length 57 6 0 none (l.map encT++ks.reverse.map encT),o2]):=by
 refine Cs.body (fn:=Tryd.f30) Tryd.func30 rfl (by kernel_rfl) ?_
 refine Wc.seq (Wc.wn [(0,(.ptr 0 0 0)),(1,(.osl 6 (List.map encT ks))),(4,(.int .i64 ((List.length (List.map encT ks):Int)-1)))] (hp [.row 0 98 2 0 (some 1) [(.agg [(.sl 1 0 0 (n) none),(mo)])],.row 0 57 6 0 none (List.map encT l),(o2)]) [(((-9223372036854775808:Int)≤(List.length (List.map encT ks):Int)-1)∧((List.length (List.map encT ks):Int)-1≤(9223372036854775807:Int)))] (.cons (by (simp;omega)) .nil) ?_)
 refine Wc.block ?_
 have hkm:(ks.map encT).length=ks.length:=List.length_map _
 rw [hkm]
 have e0:(ks.length:Int)-1=(ks.length:Int)-1-((0:Nat):Int):=by simp
 rw [e0]
 refine Wc.loopV (α:=Nat) (fun j=>(base 30 25).on [(0,.ptr 0 0 0),(1,.osl 6 (ks.map encT)),(4,.int .i64 ((ks.length:Int)-1-(j:Int)))]) (fun j=>hp [.row 0 98 2 0 (some 1) [.agg [.sl 1 j 0 (n+j) none,mo]],.row j 57 6 0 none (l.map encT++(ks.reverse.take j).map encT),o2]) (fun j=>j≤ks.length) (fun j=>ks.length-j) 0 (Vw.trans (Vw.le (Le.on [0,1,4] (by kernel_rfl))) (Vw.eq rfl (by rw [List.take_zero,List.map_nil,List.append_nil];kernel_rfl))) (Nat.zero_le _) ?_
 intro j hj
 have hrl:(ks.reverse.take j).length=j:=by rw [List.length_take,List.length_reverse];omega
 generalize hts:ks.reverse.take j=ts at *
 refine Wc.seq (Wc.seq (Wc.wn0 [(0,(.ptr 0 0 0)),(1,(.osl 6 (List.map encT ks))),(4,(.int .i64 ((List.length ks:Int)-1-(j:Int)))),(9,(.bool (decide (0≤(List.length ks:Int)-1-(j:Int)))))] (hp [.row 0 98 2 0 (some 1) [(.agg [(.sl 1 (j) 0 (n+j) none),(mo)])],.row (j) 57 6 0 none (List.map encT l++List.map encT ts),(o2)]) ?_))
 refine Wc.cq (p:=0≤(List.length ks:Int)-1-(j:Int)) (fun c1=>?_) (fun c1=>?_)
 ·refine Wc.skip (Wc.seq (Wc.block (Wc.drawn0 (by kernel_rfl) ?_)))
  refine Dl.bs 0 8 [(12,(.ptr 0 0 0)),(16,(.sl 1 (j) 0 (n+j) none)),(19,(.gptr 6 (List.map encT ks) (Int.toNat ((List.length ks:Int)-1-(j:Int))*6)))] [((0≤(List.length ks:Int)-1-(j:Int))∧((List.length ks:Int)-1-(j:Int)<(List.length (List.map encT ks):Int)))] (.cons (by omega) .nil) ?_
  refine Dl.l 8 [(20,(.agg [(.int .i64 ((List.getD ks (Int.toNat ((List.length ks:Int)-1-(j:Int))) th0).d.kind)),(.str ((List.getD ks (Int.toNat ((List.length ks:Int)-1-(j:Int))) th0).d.text)),(.int .i64 ((List.getD ks (Int.toNat ((List.length ks:Int)-1-(j:Int))) th0).d.n)),(.osl 4 (esD (List.getD ks (Int.toNat ((List.length ks:Int)-1-(j:Int))) th0).d)),(.bool ((List.getD ks (Int.toNat ((List.length ks:Int)-1-(j:Int))) th0).flat)),(.int .i64 ((List.getD ks (Int.toNat ((List.length ks:Int)-1-(j:Int))) th0).n))]))] (@Go.AM.ldTh (hp [Obj.row 0 98 2 0 (some 1) [V.agg [V.sl 1 j 0 (n+j) none,mo]],Obj.row j 57 6 0 none (List.map encT l++List.map encT ts),o2]) (ks) (Int.toNat ((List.length ks:Int)-1-(j:Int))) (by omega)) ?_
  refine Dl.bn 9 14 [] (hp [.row 0 98 2 0 (some 1) [(.agg [(.sl 1 (Nat.succ j) 0 (n+j+List.length [V.agg [V.int .i64 (List.getD ks (Int.toNat ((List.length ks:Int)-1-(j:Int))) th0).d.kind,V.str (List.getD ks (Int.toNat ((List.length ks:Int)-1-(j:Int))) th0).d.text,V.int .i64 (List.getD ks (Int.toNat ((List.length ks:Int)-1-(j:Int))) th0).d.n,V.osl 4 (esD (List.getD ks (Int.toNat ((List.length ks:Int)-1-(j:Int))) th0).d),V.bool (List.getD ks (Int.toNat ((List.length ks:Int)-1-(j:Int))) th0).flat,V.int .i64 (List.getD ks (Int.toNat ((List.length ks:Int)-1-(j:Int))) th0).n]]) none),(mo)])],.row (Nat.succ j) 57 6 0 none (List.map encT l++List.map encT ts++[V.agg [V.int .i64 (List.getD ks (Int.toNat ((List.length ks:Int)-1-(j:Int))) th0).d.kind,V.str (List.getD ks (Int.toNat ((List.length ks:Int)-1-(j:Int))) th0).d.text,V.int .i64 (List.getD ks (Int.toNat ((List.length ks:Int)-1-(j:Int))) th0).d.n,V.osl 4 (esD (List.getD ks (Int.toNat ((List.length ks:Int)-1-(j:Int))) th0).d),V.bool (List.getD ks (Int.toNat ((List.length ks:Int)-1-(j:Int))) th0).flat,V.int .i64 (List.getD ks (Int.toNat ((List.length ks:Int)-1-(j:Int))) th0).n]]),(o2)]) [((j=j)∧(([V.agg [V.int .i64 (List.getD ks (Int.toNat ((List.length ks:Int)-1-(j:Int))) th0).d.kind,V.str (List.getD ks (Int.toNat ((List.length ks:Int)-1-(j:Int))) th0).d.text,V.int .i64 (List.getD ks (Int.toNat ((List.length ks:Int)-1-(j:Int))) th0).d.n,V.osl 4 (esD (List.getD ks (Int.toNat ((List.length ks:Int)-1-(j:Int))) th0).d),V.bool (List.getD ks (Int.toNat ((List.length ks:Int)-1-(j:Int))) th0).flat,V.int .i64 (List.getD ks (Int.toNat ((List.length ks:Int)-1-(j:Int))) th0).n]]≠[])∧((n+j=List.length (List.map encT l++List.map encT ts))∧(((0:Nat)≤n+j)∧((n+j+List.length [V.agg [V.int .i64 (List.getD ks (Int.toNat ((List.length ks:Int)-1-(j:Int))) th0).d.kind,V.str (List.getD ks (Int.toNat ((List.length ks:Int)-1-(j:Int))) th0).d.text,V.int .i64 (List.getD ks (Int.toNat ((List.length ks:Int)-1-(j:Int))) th0).d.n,V.osl 4 (esD (List.getD ks (Int.toNat ((List.length ks:Int)-1-(j:Int))) th0).d),V.bool (List.getD ks (Int.toNat ((List.length ks:Int)-1-(j:Int))) th0).flat,V.int .i64 (List.getD ks (Int.toNat ((List.length ks:Int)-1-(j:Int))) th0).n]]≤(1099511627776:Nat))∧((n+j+List.length [V.agg [V.int .i64 (List.getD ks (Int.toNat ((List.length ks:Int)-1-(j:Int))) th0).d.kind,V.str (List.getD ks (Int.toNat ((List.length ks:Int)-1-(j:Int))) th0).d.text,V.int .i64 (List.getD ks (Int.toNat ((List.length ks:Int)-1-(j:Int))) th0).d.n,V.osl 4 (esD (List.getD ks (Int.toNat ((List.length ks:Int)-1-(j:Int))) th0).d),V.bool (List.getD ks (Int.toNat ((List.length ks:Int)-1-(j:Int))) th0).flat,V.int .i64 (List.getD ks (Int.toNat ((List.length ks:Int)-1-(j:Int))) th0).n]])*72≤(1099511627776:Nat)))))))] (.cons (by exact ⟨rfl,by simp,by first | (simp;done) | (simp;omega),by omega,by simp only [List.length_cons,List.length_nil];omega,by simp only [List.length_cons,List.length_nil];omega⟩) .nil) ?_
  refine Dl.done 14 rfl ?_
  refine Wc.w [(4,(.int .i64 ((List.length ks:Int)-1-(j:Int)-1)))] [(i64r ((List.length ks:Int)-1-(j:Int)-1))] (.cons (by omega) .nil) ?_
  have hj':j<ks.length:=by omega
  have e1:(ks.length:Int)-1-((j+1:Nat):Int)=(ks.length:Int)-1-(j:Int)-1:=by omega
  have e2:Int.toNat ((ks.length:Int)-1-(j:Int))=ks.length-1-j:=by omega
  refine ⟨j+1,?_,by omega,by omega⟩
  simp only [e1,e2,qe8 hj',hts,List.map_append]
  rw [← List.append_assoc]
  exact Vw.trans (Vw.le (Le.on [0,1,4] (by kernel_rfl))) (Vw.eq rfl (by kernel_rfl))
 refine Wc.exit (z8.here ?_)
 refine retX.mk (.tup []) ⟨rfl,rfl⟩ (by kernel_rfl) ?_
 have hjj:j=ks.length:=by omega
 subst hjj
 rw [List.take_of_length_le (by simp)] at hts
 subst hts
 exact ⟨rfl,rfl⟩
noncomputable def zd6 (mo:V) (ks:List Th) (j:Nat):Heap:=match j with
 | 0=>hp [.row 0 98 2 0 (some 1) [.agg [.nils,mo]]]
 | j+1=>hp [.row 0 98 2 0 (some 1) [.agg [.sl 1 j 0 (j+1) none,mo]],.row j 57 6 0 none ((ks.reverse.take (j+1)).map encT)]
theorem x63 (mo:V) (ks:List Th) (hk:ks.length≤100000):Cs Tryd.prog EU 30 [.ptr 0 0 0,.osl 6 (ks.map encT)] (hp [.row 0 98 2 0 (some 1) [.agg [.nils,mo]]]) undef (zd6 mo ks ks.length):=by
 refine Cs.body (fn:=Tryd.f30) Tryd.func30 rfl (by kernel_rfl) ?_
 refine Wc.seq (Wc.wn [(0,(.ptr 0 0 0)),(1,(.osl 6 (List.map encT ks))),(4,(.int .i64 ((List.length (List.map encT ks):Int)-1)))] (hp [.row 0 98 2 0 (some 1) [(.agg [.nils,(mo)])]]) [(((-9223372036854775808:Int)≤(List.length (List.map encT ks):Int)-1)∧((List.length (List.map encT ks):Int)-1≤(9223372036854775807:Int)))] (.cons (by (simp;omega)) .nil) ?_)
 refine Wc.block ?_
 have hkm:(ks.map encT).length=ks.length:=List.length_map _
 rw [hkm]
 have e0:(ks.length:Int)-1=(ks.length:Int)-1-((0:Nat):Int):=by simp
 rw [e0]
 refine Wc.loopV (α:=Nat) (fun j=>(base 30 25).on [(0,.ptr 0 0 0),(1,.osl 6 (ks.map encT)),(4,.int .i64 ((ks.length:Int)-1-(j:Int)))]) (fun j=>zd6 mo ks j) (fun j=>j≤ks.length) (fun j=>ks.length-j) 0 (Vw.le (Le.on [0,1,4] (by kernel_rfl))) (Nat.zero_le _) ?_
 intro j hj
 cases j with
 | zero =>
  change Wc Tryd.prog EU _ ((base 30 25).on [(0,.ptr 0 0 0),(1,.osl 6 (ks.map encT)),(4,.int .i64 ((ks.length:Int)-1-(((0:Nat):Int):Int)))]) (hp [.row 0 98 2 0 (some 1) [.agg [.nils,mo]]]) _ _ _
  rw [← e0]
  refine Wc.seq (Wc.seq (Wc.wn0 [(0,(.ptr 0 0 0)),(1,(.osl 6 (List.map encT ks))),(4,(.int .i64 ((List.length ks:Int)-1))),(9,(.bool (decide (0≤(List.length ks:Int)-1))))] (hp [.row 0 98 2 0 (some 1) [(.agg [.nils,(mo)])]]) ?_))
  refine Wc.cq (p:=0≤(List.length ks:Int)-1) (fun c1=>?_) (fun c1=>?_)
  ·refine Wc.skip (Wc.seq (Wc.block (Wc.drawn0 (by kernel_rfl) ?_)))
   refine Dl.bs 0 8 [(12,(.ptr 0 0 0)),(16,.nils),(19,(.gptr 6 (List.map encT ks) (Int.toNat ((List.length ks:Int)-1)*6)))] [((0≤(List.length ks:Int)-1)∧((List.length ks:Int)-1<(List.length (List.map encT ks):Int)))] (.cons (by omega) .nil) ?_
   refine Dl.l 8 [(20,(.agg [(.int .i64 ((List.getD ks (Int.toNat ((List.length ks:Int)-1)) th0).d.kind)),(.str ((List.getD ks (Int.toNat ((List.length ks:Int)-1)) th0).d.text)),(.int .i64 ((List.getD ks (Int.toNat ((List.length ks:Int)-1)) th0).d.n)),(.osl 4 (esD (List.getD ks (Int.toNat ((List.length ks:Int)-1)) th0).d)),(.bool ((List.getD ks (Int.toNat ((List.length ks:Int)-1)) th0).flat)),(.int .i64 ((List.getD ks (Int.toNat ((List.length ks:Int)-1)) th0).n))]))] (@Go.AM.ldTh (hp [Obj.row 0 98 2 0 (some 1) [V.agg [V.nils,mo]]]) (ks) (Int.toNat ((List.length ks:Int)-1)) (by omega)) ?_
   refine Dl.bn 9 14 [] (hp [.row 0 98 2 0 (some 1) [(.agg [(.sl 1 0 0 1 none),(mo)])],.row 0 57 6 0 none [(.agg [(.int .i64 ((List.getD ks (Int.toNat ((List.length ks:Int)-1)) th0).d.kind)),(.str ((List.getD ks (Int.toNat ((List.length ks:Int)-1)) th0).d.text)),(.int .i64 ((List.getD ks (Int.toNat ((List.length ks:Int)-1)) th0).d.n)),(.osl 4 (esD (List.getD ks (Int.toNat ((List.length ks:Int)-1)) th0).d)),(.bool ((List.getD ks (Int.toNat ((List.length ks:Int)-1)) th0).flat)),(.int .i64 ((List.getD ks (Int.toNat ((List.length ks:Int)-1)) th0).n))])]]) [(([V.agg [V.int .i64 (List.getD ks (Int.toNat ((List.length ks:Int)-1)) th0).d.kind,V.str (List.getD ks (Int.toNat ((List.length ks:Int)-1)) th0).d.text,V.int .i64 (List.getD ks (Int.toNat ((List.length ks:Int)-1)) th0).d.n,V.osl 4 (esD (List.getD ks (Int.toNat ((List.length ks:Int)-1)) th0).d),V.bool (List.getD ks (Int.toNat ((List.length ks:Int)-1)) th0).flat,V.int .i64 (List.getD ks (Int.toNat ((List.length ks:Int)-1)) th0).n]]≠[])∧((1≤(1099511627776:Nat))∧(1*72≤(1099511627776:Nat))))] (.cons (by simp) .nil) ?_
   refine Dl.done 14 rfl ?_
   refine Wc.w [(4,(.int .i64 ((List.length ks:Int)-1-1)))] [(i64r ((List.length ks:Int)-1-1))] (.cons (by omega) .nil) ?_
   have hj':0<ks.length:=by omega
   have e1:(ks.length:Int)-1-((0+1:Nat):Int)=(ks.length:Int)-1-1:=by omega
   have e2:Int.toNat ((ks.length:Int)-1)=ks.length-1-0:=by omega
   refine ⟨0+1,?_,by omega,by omega⟩
   change Vw _ _ _ ((base 30 25).on [(0,.ptr 0 0 0),(1,.osl 6 (ks.map encT)),(4,.int .i64 ((ks.length:Int)-1-(((0+1:Nat):Int):Int)))]) (hp [.row 0 98 2 0 (some 1) [.agg [.sl 1 0 0 (0+1) none,mo]],.row 0 57 6 0 none ((ks.reverse.take (0+1)).map encT)])
   simp only [e1,e2,qe8 hj',List.take_zero,List.nil_append]
   exact Vw.trans (Vw.le (Le.on [0,1,4] (by kernel_rfl))) (Vw.eq rfl (by kernel_rfl))
  refine Wc.exit (z8.here ?_)
  refine retX.mk (.tup []) ⟨rfl,rfl⟩ (by kernel_rfl) ?_
  have h0:ks.length=0:=by omega
  rw [h0]
  exact ⟨rfl,rfl⟩
 | succ j =>
  let v1:Obj:=.row 0 98 2 0 (some 1) [.agg [.sl 1 j 0 (j+1) none,mo]]
  let v2:Obj:=.row j 57 6 0 none ((ks.reverse.take (j+1)).map encT)
  change Wc Tryd.prog EU _ ((base 30 25).on [(0,.ptr 0 0 0),(1,.osl 6 (ks.map encT)),(4,.int .i64 ((ks.length:Int)-1-(((j+1:Nat):Int):Int)))]) (hp [v1,v2]) _ _ _
  have hrl:(ks.reverse.take (j+1)).length=j+1:=by rw [List.length_take,List.length_reverse];omega
  generalize hts:ks.reverse.take (j+1)=ts at *
  refine Wc.seq (Wc.seq (Wc.wn0 [(0,(.ptr 0 0 0)),(1,(.osl 6 (List.map encT ks))),(4,(.int .i64 ((List.length ks:Int)-1-(↑(j+1):Int)))),(9,(.bool (decide (0≤(List.length ks:Int)-1-(↑(j+1):Int)))))] (hp [.row 0 98 2 0 (some 1) [(.agg [(.sl 1 (j) 0 (j+1) none),(mo)])],.row (j) 57 6 0 none (List.map encT ts)]) ?_))
  refine Wc.cq (p:=0≤(List.length ks:Int)-1-(↑(j+1):Int)) (fun c1=>?_) (fun c1=>?_)
  ·refine Wc.skip (Wc.seq (Wc.block (Wc.drawn0 (by kernel_rfl) ?_)))
   refine Dl.bs 0 8 [(12,(.ptr 0 0 0)),(16,(.sl 1 (j) 0 (j+1) none)),(19,(.gptr 6 (List.map encT ks) (Int.toNat ((List.length ks:Int)-1-(↑(j+1):Int))*6)))] [((0≤(List.length ks:Int)-1-(↑(j+1):Int))∧((List.length ks:Int)-1-(↑(j+1):Int)<(List.length (List.map encT ks):Int)))] (.cons (by omega) .nil) ?_
   refine Dl.l 8 [(20,(.agg [(.int .i64 ((List.getD ks (Int.toNat ((List.length ks:Int)-1-(↑(j+1):Int))) th0).d.kind)),(.str ((List.getD ks (Int.toNat ((List.length ks:Int)-1-(↑(j+1):Int))) th0).d.text)),(.int .i64 ((List.getD ks (Int.toNat ((List.length ks:Int)-1-(↑(j+1):Int))) th0).d.n)),(.osl 4 (esD (List.getD ks (Int.toNat ((List.length ks:Int)-1-(↑(j+1):Int))) th0).d)),(.bool ((List.getD ks (Int.toNat ((List.length ks:Int)-1-(↑(j+1):Int))) th0).flat)),(.int .i64 ((List.getD ks (Int.toNat ((List.length ks:Int)-1-(↑(j+1):Int))) th0).n))]))] (@Go.AM.ldTh (hp [Obj.row 0 98 2 0 (some 1) [V.agg [V.sl 1 j 0 (j+1) none,mo]],Obj.row j 57 6 0 none (List.map encT ts)]) (ks) (Int.toNat ((List.length ks:Int)-1-(↑(j+1):Int))) (by omega)) ?_
   refine Dl.bn 9 14 [] (hp [.row 0 98 2 0 (some 1) [(.agg [(.sl 1 (Nat.succ j) 0 (j+1+List.length [V.agg [V.int .i64 (List.getD ks (Int.toNat ((List.length ks:Int)-1-(↑(j+1):Int))) th0).d.kind,V.str (List.getD ks (Int.toNat ((List.length ks:Int)-1-(↑(j+1):Int))) th0).d.text,V.int .i64 (List.getD ks (Int.toNat ((List.length ks:Int)-1-(↑(j+1):Int))) th0).d.n,V.osl 4 (esD (List.getD ks (Int.toNat ((List.length ks:Int)-1-(↑(j+1):Int))) th0).d),V.bool (List.getD ks (Int.toNat ((List.length ks:Int)-1-(↑(j+1):Int))) th0).flat,V.int .i64 (List.getD ks (Int.toNat ((List.length ks:Int)-1-(↑(j+1):Int))) th0).n]]) none),(mo)])],.row (Nat.succ j) 57 6 0 none (List.map encT ts++[V.agg [V.int .i64 (List.getD ks (Int.toNat ((List.length ks:Int)-1-(↑(j+1):Int))) th0).d.kind,V.str (List.getD ks (Int.toNat ((List.length ks:Int)-1-(↑(j+1):Int))) th0).d.text,V.int .i64 (List.getD ks (Int.toNat ((List.length ks:Int)-1-(↑(j+1):Int))) th0).d.n,V.osl 4 (esD (List.getD ks (Int.toNat ((List.length ks:Int)-1-(↑(j+1):Int))) th0).d),V.bool (List.getD ks (Int.toNat ((List.length ks:Int)-1-(↑(j+1):Int))) th0).flat,V.int .i64 (List.getD ks (Int.toNat ((List.length ks:Int)-1-(↑(j+1):Int))) th0).n]])]) [((j=j)∧(([V.agg [V.int .i64 (List.getD ks (Int.toNat ((List.length ks:Int)-1-(↑(j+1):Int))) th0).d.kind,V.str (List.getD ks (Int.toNat ((List.length ks:Int)-1-(↑(j+1):Int))) th0).d.text,V.int .i64 (List.getD ks (Int.toNat ((List.length ks:Int)-1-(↑(j+1):Int))) th0).d.n,V.osl 4 (esD (List.getD ks (Int.toNat ((List.length ks:Int)-1-(↑(j+1):Int))) th0).d),V.bool (List.getD ks (Int.toNat ((List.length ks:Int)-1-(↑(j+1):Int))) th0).flat,V.int .i64 (List.getD ks (Int.toNat ((List.length ks:Int)-1-(↑(j+1):Int))) th0).n]]≠[])∧((j+1=List.length (List.map encT ts))∧(((0:Nat)≤j+1)∧((j+1+List.length [V.agg [V.int .i64 (List.getD ks (Int.toNat ((List.length ks:Int)-1-(↑(j+1):Int))) th0).d.kind,V.str (List.getD ks (Int.toNat ((List.length ks:Int)-1-(↑(j+1):Int))) th0).d.text,V.int .i64 (List.getD ks (Int.toNat ((List.length ks:Int)-1-(↑(j+1):Int))) th0).d.n,V.osl 4 (esD (List.getD ks (Int.toNat ((List.length ks:Int)-1-(↑(j+1):Int))) th0).d),V.bool (List.getD ks (Int.toNat ((List.length ks:Int)-1-(↑(j+1):Int))) th0).flat,V.int .i64 (List.getD ks (Int.toNat ((List.length ks:Int)-1-(↑(j+1):Int))) th0).n]]≤(1099511627776:Nat))∧((j+1+List.length [V.agg [V.int .i64 (List.getD ks (Int.toNat ((List.length ks:Int)-1-(↑(j+1):Int))) th0).d.kind,V.str (List.getD ks (Int.toNat ((List.length ks:Int)-1-(↑(j+1):Int))) th0).d.text,V.int .i64 (List.getD ks (Int.toNat ((List.length ks:Int)-1-(↑(j+1):Int))) th0).d.n,V.osl 4 (esD (List.getD ks (Int.toNat ((List.length ks:Int)-1-(↑(j+1):Int))) th0).d),V.bool (List.getD ks (Int.toNat ((List.length ks:Int)-1-(↑(j+1):Int))) th0).flat,V.int .i64 (List.getD ks (Int.toNat ((List.length ks:Int)-1-(↑(j+1):Int))) th0).n]])*72≤(1099511627776:Nat)))))))] (.cons (by exact ⟨rfl,by simp,by first | (simp;done) | (simp;omega),by omega,by simp only [List.length_cons,List.length_nil];omega,by simp only [List.length_cons,List.length_nil];omega⟩) .nil) ?_
   refine Dl.done 14 rfl ?_
   refine Wc.w [(4,(.int .i64 ((List.length ks:Int)-1-(↑(j+1):Int)-1)))] [(i64r ((List.length ks:Int)-1-(↑(j+1):Int)-1))] (.cons (by omega) .nil) ?_
   have hj':j+1<ks.length:=by omega
   have e1:(ks.length:Int)-1-((j+1+1:Nat):Int)=(ks.length:Int)-1-((j+1:Nat):Int)-1:=by omega
   have e2:Int.toNat ((ks.length:Int)-1-((j+1:Nat):Int))=ks.length-1-(j+1):=by omega
   refine ⟨j+1+1,?_,by omega,by omega⟩
   change Vw _ _ _ ((base 30 25).on [(0,.ptr 0 0 0),(1,.osl 6 (ks.map encT)),(4,.int .i64 ((ks.length:Int)-1-(((j+1+1:Nat):Int):Int)))]) (hp [.row 0 98 2 0 (some 1) [.agg [.sl 1 (j+1) 0 ((j+1)+1) none,mo]],.row (j+1) 57 6 0 none ((ks.reverse.take (j+1+1)).map encT)])
   simp only [e1,e2,qe8 hj',hts,List.map_append]
   exact Vw.trans (Vw.le (Le.on [0,1,4] (by kernel_rfl))) (Vw.eq rfl (by kernel_rfl))
  refine Wc.exit (z8.here ?_)
  refine retX.mk (.tup []) ⟨rfl,rfl⟩ (by kernel_rfl) ?_
  have hjj:ks.length=j+1:=by omega
  rw [hjj]
  change _∧_=hp [.row 0 98 2 0 (some 1) [.agg [.sl 1 j 0 (j+1) none,mo]],.row j 57 6 0 none ((ks.reverse.take (j+1)).map encT)]
  rw [hts]
  exact ⟨rfl,rfl⟩
noncomputable def zd0 (mo:V) (o1:Obj) (ks:List Th) (j:Nat):Heap:=match j with
 | 0=>hp [.row 0 98 2 0 (some 1) [.agg [.nils,mo]],o1]
 | j+1=>hp [.row 0 98 2 0 (some 1) [.agg [.sl 2 j 0 (j+1) none,mo]],o1,.row j 57 6 0 none ((ks.reverse.take (j+1)).map encT)]
theorem x58 (mo:V) (o1:Obj) (ks:List Th) (hk:ks.length≤100000):Cs Tryd.prog EU 30 [.ptr 0 0 0,.osl 6 (ks.map encT)] (hp [.row 0 98 2 0 (some 1) [.agg [.nils,mo]],o1]) undef (zd0 mo o1 ks ks.length):=by
 refine Cs.body (fn:=Tryd.f30) Tryd.func30 rfl (by kernel_rfl) ?_
 refine Wc.seq (Wc.wn [(0,(.ptr 0 0 0)),(1,(.osl 6 (List.map encT ks))),(4,(.int .i64 ((List.length (List.map encT ks):Int)-1)))] (hp [.row 0 98 2 0 (some 1) [(.agg [.nils,(mo)])],(o1)]) [(((-9223372036854775808:Int)≤(List.length (List.map encT ks):Int)-1)∧((List.length (List.map encT ks):Int)-1≤(9223372036854775807:Int)))] (.cons (by (simp;omega)) .nil) ?_)
 refine Wc.block ?_
 have hkm:(ks.map encT).length=ks.length:=List.length_map _
 rw [hkm]
 have e0:(ks.length:Int)-1=(ks.length:Int)-1-((0:Nat):Int):=by simp
 rw [e0]
 refine Wc.loopV (α:=Nat) (fun j=>(base 30 25).on [(0,.ptr 0 0 0),(1,.osl 6 (ks.map encT)),(4,.int .i64 ((ks.length:Int)-1-(j:Int)))]) (fun j=>zd0 mo o1 ks j) (fun j=>j≤ks.length) (fun j=>ks.length-j) 0 (Vw.le (Le.on [0,1,4] (by kernel_rfl))) (Nat.zero_le _) ?_
 intro j hj
 cases j with
 | zero =>
  change Wc Tryd.prog EU _ ((base 30 25).on [(0,.ptr 0 0 0),(1,.osl 6 (ks.map encT)),(4,.int .i64 ((ks.length:Int)-1-(((0:Nat):Int):Int)))]) (hp [.row 0 98 2 0 (some 1) [.agg [.nils,mo]],o1]) _ _ _
  rw [← e0]
  refine Wc.seq (Wc.seq (Wc.wn0 [(0,(.ptr 0 0 0)),(1,(.osl 6 (List.map encT ks))),(4,(.int .i64 ((List.length ks:Int)-1))),(9,(.bool (decide (0≤(List.length ks:Int)-1))))] (hp [.row 0 98 2 0 (some 1) [(.agg [.nils,(mo)])],(o1)]) ?_))
  refine Wc.cq (p:=0≤(List.length ks:Int)-1) (fun c1=>?_) (fun c1=>?_)
  ·refine Wc.skip (Wc.seq (Wc.block (Wc.drawn0 (by kernel_rfl) ?_)))
   refine Dl.bs 0 8 [(12,(.ptr 0 0 0)),(16,.nils),(19,(.gptr 6 (List.map encT ks) (Int.toNat ((List.length ks:Int)-1)*6)))] [((0≤(List.length ks:Int)-1)∧((List.length ks:Int)-1<(List.length (List.map encT ks):Int)))] (.cons (by omega) .nil) ?_
   refine Dl.l 8 [(20,(.agg [(.int .i64 ((List.getD ks (Int.toNat ((List.length ks:Int)-1)) th0).d.kind)),(.str ((List.getD ks (Int.toNat ((List.length ks:Int)-1)) th0).d.text)),(.int .i64 ((List.getD ks (Int.toNat ((List.length ks:Int)-1)) th0).d.n)),(.osl 4 (esD (List.getD ks (Int.toNat ((List.length ks:Int)-1)) th0).d)),(.bool ((List.getD ks (Int.toNat ((List.length ks:Int)-1)) th0).flat)),(.int .i64 ((List.getD ks (Int.toNat ((List.length ks:Int)-1)) th0).n))]))] (@Go.AM.ldTh (hp [Obj.row 0 98 2 0 (some 1) [V.agg [V.nils,mo]],o1]) (ks) (Int.toNat ((List.length ks:Int)-1)) (by omega)) ?_
   refine Dl.bn 9 14 [] (hp [.row 0 98 2 0 (some 1) [(.agg [(.sl 2 0 0 1 none),(mo)])],(o1),.row 0 57 6 0 none [(.agg [(.int .i64 ((List.getD ks (Int.toNat ((List.length ks:Int)-1)) th0).d.kind)),(.str ((List.getD ks (Int.toNat ((List.length ks:Int)-1)) th0).d.text)),(.int .i64 ((List.getD ks (Int.toNat ((List.length ks:Int)-1)) th0).d.n)),(.osl 4 (esD (List.getD ks (Int.toNat ((List.length ks:Int)-1)) th0).d)),(.bool ((List.getD ks (Int.toNat ((List.length ks:Int)-1)) th0).flat)),(.int .i64 ((List.getD ks (Int.toNat ((List.length ks:Int)-1)) th0).n))])]]) [(([V.agg [V.int .i64 (List.getD ks (Int.toNat ((List.length ks:Int)-1)) th0).d.kind,V.str (List.getD ks (Int.toNat ((List.length ks:Int)-1)) th0).d.text,V.int .i64 (List.getD ks (Int.toNat ((List.length ks:Int)-1)) th0).d.n,V.osl 4 (esD (List.getD ks (Int.toNat ((List.length ks:Int)-1)) th0).d),V.bool (List.getD ks (Int.toNat ((List.length ks:Int)-1)) th0).flat,V.int .i64 (List.getD ks (Int.toNat ((List.length ks:Int)-1)) th0).n]]≠[])∧((1≤(1099511627776:Nat))∧(1*72≤(1099511627776:Nat))))] (.cons (by simp) .nil) ?_
   refine Dl.done 14 rfl ?_
   refine Wc.w [(4,(.int .i64 ((List.length ks:Int)-1-1)))] [(i64r ((List.length ks:Int)-1-1))] (.cons (by omega) .nil) ?_
   have hj':0<ks.length:=by omega
   have e1:(ks.length:Int)-1-((0+1:Nat):Int)=(ks.length:Int)-1-1:=by omega
   have e2:Int.toNat ((ks.length:Int)-1)=ks.length-1-0:=by omega
   refine ⟨0+1,?_,by omega,by omega⟩
   change Vw _ _ _ ((base 30 25).on [(0,.ptr 0 0 0),(1,.osl 6 (ks.map encT)),(4,.int .i64 ((ks.length:Int)-1-(((0+1:Nat):Int):Int)))]) (hp [.row 0 98 2 0 (some 1) [.agg [.sl 2 0 0 (0+1) none,mo]],o1,.row 0 57 6 0 none ((ks.reverse.take (0+1)).map encT)])
   simp only [e1,e2,qe8 hj',List.take_zero,List.nil_append]
   exact Vw.trans (Vw.le (Le.on [0,1,4] (by kernel_rfl))) (Vw.eq rfl (by kernel_rfl))
  refine Wc.exit (z8.here ?_)
  refine retX.mk (.tup []) ⟨rfl,rfl⟩ (by kernel_rfl) ?_
  have h0:ks.length=0:=by omega
  rw [h0]
  exact ⟨rfl,rfl⟩
 | succ j =>
  let v1:Obj:=.row 0 98 2 0 (some 1) [.agg [.sl 2 j 0 (j+1) none,mo]]
  let v2:Obj:=.row j 57 6 0 none ((ks.reverse.take (j+1)).map encT)
  change Wc Tryd.prog EU _ ((base 30 25).on [(0,.ptr 0 0 0),(1,.osl 6 (ks.map encT)),(4,.int .i64 ((ks.length:Int)-1-(((j+1:Nat):Int):Int)))]) (hp [v1,o1,v2]) _ _ _
  have hrl:(ks.reverse.take (j+1)).length=j+1:=by rw [List.length_take,List.length_reverse];omega
  generalize hts:ks.reverse.take (j+1)=ts at *
  refine Wc.seq (Wc.seq (Wc.wn0 [(0,(.ptr 0 0 0)),(1,(.osl 6 (List.map encT ks))),(4,(.int .i64 ((List.length ks:Int)-1-(↑(j+1):Int)))),(9,(.bool (decide (0≤(List.length ks:Int)-1-(↑(j+1):Int)))))] (hp [.row 0 98 2 0 (some 1) [(.agg [(.sl 2 (j) 0 (j+1) none),(mo)])],(o1),.row (j) 57 6 0 none (List.map encT ts)]) ?_))
  refine Wc.cq (p:=0≤(List.length ks:Int)-1-(↑(j+1):Int)) (fun c1=>?_) (fun c1=>?_)
  ·refine Wc.skip (Wc.seq (Wc.block (Wc.drawn0 (by kernel_rfl) ?_)))
   refine Dl.bs 0 8 [(12,(.ptr 0 0 0)),(16,(.sl 2 (j) 0 (j+1) none)),(19,(.gptr 6 (List.map encT ks) (Int.toNat ((List.length ks:Int)-1-(↑(j+1):Int))*6)))] [((0≤(List.length ks:Int)-1-(↑(j+1):Int))∧((List.length ks:Int)-1-(↑(j+1):Int)<(List.length (List.map encT ks):Int)))] (.cons (by omega) .nil) ?_
   refine Dl.l 8 [(20,(.agg [(.int .i64 ((List.getD ks (Int.toNat ((List.length ks:Int)-1-(↑(j+1):Int))) th0).d.kind)),(.str ((List.getD ks (Int.toNat ((List.length ks:Int)-1-(↑(j+1):Int))) th0).d.text)),(.int .i64 ((List.getD ks (Int.toNat ((List.length ks:Int)-1-(↑(j+1):Int))) th0).d.n)),(.osl 4 (esD (List.getD ks (Int.toNat ((List.length ks:Int)-1-(↑(j+1):Int))) th0).d)),(.bool ((List.getD ks (Int.toNat ((List.length ks:Int)-1-(↑(j+1):Int))) th0).flat)),(.int .i64 ((List.getD ks (Int.toNat ((List.length ks:Int)-1-(↑(j+1):Int))) th0).n))]))] (@Go.AM.ldTh (hp [Obj.row 0 98 2 0 (some 1) [V.agg [V.sl 2 j 0 (j+1) none,mo]],o1,Obj.row j 57 6 0 none (List.map encT ts)]) (ks) (Int.toNat ((List.length ks:Int)-1-(↑(j+1):Int))) (by omega)) ?_
   refine Dl.bn 9 14 [] (hp [.row 0 98 2 0 (some 1) [(.agg [(.sl 2 (Nat.succ j) 0 (j+1+List.length [V.agg [V.int .i64 (List.getD ks (Int.toNat ((List.length ks:Int)-1-(↑(j+1):Int))) th0).d.kind,V.str (List.getD ks (Int.toNat ((List.length ks:Int)-1-(↑(j+1):Int))) th0).d.text,V.int .i64 (List.getD ks (Int.toNat ((List.length ks:Int)-1-(↑(j+1):Int))) th0).d.n,V.osl 4 (esD (List.getD ks (Int.toNat ((List.length ks:Int)-1-(↑(j+1):Int))) th0).d),V.bool (List.getD ks (Int.toNat ((List.length ks:Int)-1-(↑(j+1):Int))) th0).flat,V.int .i64 (List.getD ks (Int.toNat ((List.length ks:Int)-1-(↑(j+1):Int))) th0).n]]) none),(mo)])],(o1),.row (Nat.succ j) 57 6 0 none (List.map encT ts++[V.agg [V.int .i64 (List.getD ks (Int.toNat ((List.length ks:Int)-1-(↑(j+1):Int))) th0).d.kind,V.str (List.getD ks (Int.toNat ((List.length ks:Int)-1-(↑(j+1):Int))) th0).d.text,V.int .i64 (List.getD ks (Int.toNat ((List.length ks:Int)-1-(↑(j+1):Int))) th0).d.n,V.osl 4 (esD (List.getD ks (Int.toNat ((List.length ks:Int)-1-(↑(j+1):Int))) th0).d),V.bool (List.getD ks (Int.toNat ((List.length ks:Int)-1-(↑(j+1):Int))) th0).flat,V.int .i64 (List.getD ks (Int.toNat ((List.length ks:Int)-1-(↑(j+1):Int))) th0).n]])]) [((j=j)∧(([V.agg [V.int .i64 (List.getD ks (Int.toNat ((List.length ks:Int)-1-(↑(j+1):Int))) th0).d.kind,V.str (List.getD ks (Int.toNat ((List.length ks:Int)-1-(↑(j+1):Int))) th0).d.text,V.int .i64 (List.getD ks (Int.toNat ((List.length ks:Int)-1-(↑(j+1):Int))) th0).d.n,V.osl 4 (esD (List.getD ks (Int.toNat ((List.length ks:Int)-1-(↑(j+1):Int))) th0).d),V.bool (List.getD ks (Int.toNat ((List.length ks:Int)-1-(↑(j+1):Int))) th0).flat,V.int .i64 (List.getD ks (Int.toNat ((List.length ks:Int)-1-(↑(j+1):Int))) th0).n]]≠[])∧((j+1=List.length (List.map encT ts))∧(((0:Nat)≤j+1)∧((j+1+List.length [V.agg [V.int .i64 (List.getD ks (Int.toNat ((List.length ks:Int)-1-(↑(j+1):Int))) th0).d.kind,V.str (List.getD ks (Int.toNat ((List.length ks:Int)-1-(↑(j+1):Int))) th0).d.text,V.int .i64 (List.getD ks (Int.toNat ((List.length ks:Int)-1-(↑(j+1):Int))) th0).d.n,V.osl 4 (esD (List.getD ks (Int.toNat ((List.length ks:Int)-1-(↑(j+1):Int))) th0).d),V.bool (List.getD ks (Int.toNat ((List.length ks:Int)-1-(↑(j+1):Int))) th0).flat,V.int .i64 (List.getD ks (Int.toNat ((List.length ks:Int)-1-(↑(j+1):Int))) th0).n]]≤(1099511627776:Nat))∧((j+1+List.length [V.agg [V.int .i64 (List.getD ks (Int.toNat ((List.length ks:Int)-1-(↑(j+1):Int))) th0).d.kind,V.str (List.getD ks (Int.toNat ((List.length ks:Int)-1-(↑(j+1):Int))) th0).d.text,V.int .i64 (List.getD ks (Int.toNat ((List.length ks:Int)-1-(↑(j+1):Int))) th0).d.n,V.osl 4 (esD (List.getD ks (Int.toNat ((List.length ks:Int)-1-(↑(j+1):Int))) th0).d),V.bool (List.getD ks (Int.toNat ((List.length ks:Int)-1-(↑(j+1):Int))) th0).flat,V.int .i64 (List.getD ks (Int.toNat ((List.length ks:Int)-1-(↑(j+1):Int))) th0).n]])*72≤(1099511627776:Nat)))))))] (.cons (by exact ⟨rfl,by simp,by first | (simp;done) | (simp;omega),by omega,by simp only [List.length_cons,List.length_nil];omega,by simp only [List.length_cons,List.length_nil];omega⟩) .nil) ?_
   refine Dl.done 14 rfl ?_
   refine Wc.w [(4,(.int .i64 ((List.length ks:Int)-1-(↑(j+1):Int)-1)))] [(i64r ((List.length ks:Int)-1-(↑(j+1):Int)-1))] (.cons (by omega) .nil) ?_
   have hj':j+1<ks.length:=by omega
   have e1:(ks.length:Int)-1-((j+1+1:Nat):Int)=(ks.length:Int)-1-((j+1:Nat):Int)-1:=by omega
   have e2:Int.toNat ((ks.length:Int)-1-((j+1:Nat):Int))=ks.length-1-(j+1):=by omega
   refine ⟨j+1+1,?_,by omega,by omega⟩
   change Vw _ _ _ ((base 30 25).on [(0,.ptr 0 0 0),(1,.osl 6 (ks.map encT)),(4,.int .i64 ((ks.length:Int)-1-(((j+1+1:Nat):Int):Int)))]) (hp [.row 0 98 2 0 (some 1) [.agg [.sl 2 (j+1) 0 ((j+1)+1) none,mo]],o1,.row (j+1) 57 6 0 none ((ks.reverse.take (j+1+1)).map encT)])
   simp only [e1,e2,qe8 hj',hts,List.map_append]
   exact Vw.trans (Vw.le (Le.on [0,1,4] (by kernel_rfl))) (Vw.eq rfl (by kernel_rfl))
  refine Wc.exit (z8.here ?_)
  refine retX.mk (.tup []) ⟨rfl,rfl⟩ (by kernel_rfl) ?_
  have hjj:ks.length=j+1:=by omega
  rw [hjj]
  change _∧_=hp [.row 0 98 2 0 (some 1) [.agg [.sl 2 j 0 (j+1) none,mo]],o1,.row j 57 6 0 none ((ks.reverse.take (j+1)).map encT)]
  rw [hts]
  exact ⟨rfl,rfl⟩
end Go.AM
namespace Go.AM
open Go.Proofs
set_option maxRecDepth 100000
set_option maxHeartbeats 4000000
theorem cNextB1 {mo:V} {l:List Th} {n:Nat} {t:Th} (hn:n=l.length+1) (hl:n≤1000000):Cs Tryd.prog EU 58 [.ptr 0 0 0] (hp [.row 0 98 2 0 (some 1) [.agg [.sl 1 0 0 n none,mo]],.row 0 57 6 0 none ((l++[t]).map encT)]) (.tup [encT t,.bool true]) (hp [.row 0 98 2 0 (some 1) [.agg [.sl 1 0 0 l.length none,mo]],.row 0 57 6 0 none ((l++[t]).map encT),.row 0 57 6 0 (some 1) [encT t],.row 0 57 6 0 (some 1) [encT t],.row 0 57 6 0 (some 1) [encT t]]):=by
 refine Cs.body (fn:=Tryd.f58) Tryd.func58 rfl (by kernel_rfl) ?_
 have hll:(l++[t]).length=n:=by rw [List.length_append,hn];rfl
 have hgt:(l++[t]).getD (Int.toNat ((n:Int)-1)) th0=t:=by rw [show Int.toNat ((n:Int)-1)=l.length by omega];simp
 have hnl:Int.toNat ((n:Int)-1)=l.length:=by omega
 generalize hlt:l++[t]=lt at *
 refine Wc.seq (Wc.wn0 [(0,(.ptr 0 0 0)),(2,(.ptr 2 0 0)),(3,(.bool false))] (hp [.row 0 98 2 0 (some 1) [(.agg [(.sl 1 0 0 (n) none),(mo)])],.row 0 57 6 0 none (List.map encT lt),.row 0 57 6 0 (some 1) [(.agg [(.int .i64 0),(.str []),(.int .i64 0),.nils,(.bool false),(.int .i64 0)])]]) ?_)
 refine Wc.seq (Wc.seq (Wc.enter (Wl.b0 0 3 [(11,(.ptr 0 0 0))] ?_)))
 refine Wl.callI (b:=(base 58 44)) (h1:=(hp [.row 0 98 2 0 (some 1) [(.agg [(.sl 1 0 0 (n) none),(mo)])],.row 0 57 6 0 none (List.map encT lt),.row 0 57 6 0 (some 1) [(.agg [(.int .i64 0),(.str []),(.int .i64 0),.nils,(.bool false),(.int .i64 0)])]])) (args:=[(.ptr 0 0 0)]) (d:=(some 12)) (fn:=Go.Proofs.Tryd.f31) 3 Go.Proofs.Tryd.func31 rfl (by kernel_rfl) (by kernel_rfl) ?_
 refine Wc.seq (Wc.wn0 [(0,(.ptr 0 0 0)),(2,(.ptr 3 0 0)),(3,(.bool false))] (hp [.row 0 98 2 0 (some 1) [(.agg [(.sl 1 0 0 (n) none),(mo)])],.row 0 57 6 0 none (List.map encT lt),.row 0 57 6 0 (some 1) [(.agg [(.int .i64 0),(.str []),(.int .i64 0),.nils,(.bool false),(.int .i64 0)])],.row 0 57 6 0 (some 1) [(.agg [(.int .i64 0),(.str []),(.int .i64 0),.nils,(.bool false),(.int .i64 0)])]]) ?_)
 refine Wc.seq (Wc.seq (Wc.w0 [(9,(.bool (decide ((n:Int)=0))))] ?_))
 refine Wc.cq (p:=(n:Int)=0) (fun c1=>absurd c1 (show ¬ ((n:Int)=0) from (by omega))) (fun c1=>?_)
 refine Wc.skip (Wc.seq (Wc.drawn0 (by kernel_rfl) ?_))
 refine Dl.bs 0 11 [(21,(.ptr 1 0 ((0+Int.toNat ((n:Int)-1))*6)))] [(i64r ((n:Int)-1)),((0≤(n:Int)-1)∧((n:Int)-1<(n:Int)))] (.cons (by omega) (.cons (by omega) .nil)) ?_
 refine Dl.l 11 [(22,(.agg [(.int .i64 ((List.getD lt (Int.toNat ((n:Int)-1)) th0).d.kind)),(.str ((List.getD lt (Int.toNat ((n:Int)-1)) th0).d.text)),(.int .i64 ((List.getD lt (Int.toNat ((n:Int)-1)) th0).d.n)),(.osl 4 (esD (List.getD lt (Int.toNat ((n:Int)-1)) th0).d)),(.bool ((List.getD lt (Int.toNat ((n:Int)-1)) th0).flat)),(.int .i64 ((List.getD lt (Int.toNat ((n:Int)-1)) th0).n))]))] (@Go.AM.ldThP (hp [Obj.row 0 98 2 0 (some 1) [V.agg [V.sl 1 0 0 n none,mo]],Obj.row 0 57 6 0 none (List.map encT lt),Obj.row 0 57 6 0 (some 1) [V.agg [V.int .i64 0,V.str [],V.int .i64 0,V.nils,V.bool false,V.int .i64 0]],Obj.row 0 57 6 0 (some 1) [V.agg [V.int .i64 0,V.str [],V.int .i64 0,V.nils,V.bool false,V.int .i64 0]]]) (1) (0) (Int.toNat ((n:Int)-1)) (0) (none) (lt) (by rfl) (by omega)) ?_
 refine Dl.bn0 12 13 [] (hp [.row 0 98 2 0 (some 1) [(.agg [(.sl 1 0 0 (n) none),(mo)])],.row 0 57 6 0 none (List.map encT lt),.row 0 57 6 0 (some 1) [(.agg [(.int .i64 0),(.str []),(.int .i64 0),.nils,(.bool false),(.int .i64 0)])],.row 0 57 6 0 (some 1) [(.agg [(.int .i64 ((List.getD lt (Int.toNat ((n:Int)-1)) th0).d.kind)),(.str ((List.getD lt (Int.toNat ((n:Int)-1)) th0).d.text)),(.int .i64 ((List.getD lt (Int.toNat ((n:Int)-1)) th0).d.n)),(.osl 4 (esD (List.getD lt (Int.toNat ((n:Int)-1)) th0).d)),(.bool ((List.getD lt (Int.toNat ((n:Int)-1)) th0).flat)),(.int .i64 ((List.getD lt (Int.toNat ((n:Int)-1)) th0).n))])]]) ?_
 refine Dl.done 13 rfl ?_
 refine Wc.seq (Wc.drawn0 (by kernel_rfl) ?_)
 refine Dl.bn 0 15 [] (hp [.row 0 98 2 0 (some 1) [(.agg [(.sl 1 0 0 (Int.toNat ((n:Int)-1)) none),(mo)])],.row 0 57 6 0 none (List.map encT lt),.row 0 57 6 0 (some 1) [(.agg [(.int .i64 0),(.str []),(.int .i64 0),.nils,(.bool false),(.int .i64 0)])],.row 0 57 6 0 (some 1) [(.agg [(.int .i64 ((List.getD lt (Int.toNat ((n:Int)-1)) th0).d.kind)),(.str ((List.getD lt (Int.toNat ((n:Int)-1)) th0).d.text)),(.int .i64 ((List.getD lt (Int.toNat ((n:Int)-1)) th0).d.n)),(.osl 4 (esD (List.getD lt (Int.toNat ((n:Int)-1)) th0).d)),(.bool ((List.getD lt (Int.toNat ((n:Int)-1)) th0).flat)),(.int .i64 ((List.getD lt (Int.toNat ((n:Int)-1)) th0).n))])]]) [(i64r ((n:Int)-1)),((0≤(n:Int)-1)∧((n:Int)-1≤(n:Int)))] (.cons (by omega) (.cons (by omega) .nil)) ?_
 refine Dl.done 15 rfl ?_
 refine Wc.seq (Wc.w0 [(3,(.bool true))] ?_)
 refine Wc.ret ?_
 refine retX.mk (.tup [(.agg [(.int .i64 ((List.getD lt (Int.toNat ((n:Int)-1)) th0).d.kind)),(.str ((List.getD lt (Int.toNat ((n:Int)-1)) th0).d.text)),(.int .i64 ((List.getD lt (Int.toNat ((n:Int)-1)) th0).d.n)),(.osl 4 (esD (List.getD lt (Int.toNat ((n:Int)-1)) th0).d)),(.bool ((List.getD lt (Int.toNat ((n:Int)-1)) th0).flat)),(.int .i64 ((List.getD lt (Int.toNat ((n:Int)-1)) th0).n))]),(.bool true)]) ⟨rfl,rfl⟩ (by kernel_rfl) ?_
 refine q60.mk [0,2,3,12] [(0,(.ptr 0 0 0)),(2,(.ptr 2 0 0)),(3,(.bool false)),(12,(.tup [(.agg [(.int .i64 ((List.getD lt (Int.toNat ((n:Int)-1)) th0).d.kind)),(.str ((List.getD lt (Int.toNat ((n:Int)-1)) th0).d.text)),(.int .i64 ((List.getD lt (Int.toNat ((n:Int)-1)) th0).d.n)),(.osl 4 (esD (List.getD lt (Int.toNat ((n:Int)-1)) th0).d)),(.bool ((List.getD lt (Int.toNat ((n:Int)-1)) th0).flat)),(.int .i64 ((List.getD lt (Int.toNat ((n:Int)-1)) th0).n))]),(.bool true)]))] (by kernel_rfl) ?_
 refine Wl.bn0 4 10 [(4,(.ptr 4 0 0)),(5,(.bool true))] (hp [.row 0 98 2 0 (some 1) [(.agg [(.sl 1 0 0 (Int.toNat ((n:Int)-1)) none),(mo)])],.row 0 57 6 0 none (List.map encT lt),.row 0 57 6 0 (some 1) [(.agg [(.int .i64 0),(.str []),(.int .i64 0),.nils,(.bool false),(.int .i64 0)])],.row 0 57 6 0 (some 1) [(.agg [(.int .i64 ((List.getD lt (Int.toNat ((n:Int)-1)) th0).d.kind)),(.str ((List.getD lt (Int.toNat ((n:Int)-1)) th0).d.text)),(.int .i64 ((List.getD lt (Int.toNat ((n:Int)-1)) th0).d.n)),(.osl 4 (esD (List.getD lt (Int.toNat ((n:Int)-1)) th0).d)),(.bool ((List.getD lt (Int.toNat ((n:Int)-1)) th0).flat)),(.int .i64 ((List.getD lt (Int.toNat ((n:Int)-1)) th0).n))])],.row 0 57 6 0 (some 1) [(.agg [(.int .i64 ((List.getD lt (Int.toNat ((n:Int)-1)) th0).d.kind)),(.str ((List.getD lt (Int.toNat ((n:Int)-1)) th0).d.text)),(.int .i64 ((List.getD lt (Int.toNat ((n:Int)-1)) th0).d.n)),(.osl 4 (esD (List.getD lt (Int.toNat ((n:Int)-1)) th0).d)),(.bool ((List.getD lt (Int.toNat ((n:Int)-1)) th0).flat)),(.int .i64 ((List.getD lt (Int.toNat ((n:Int)-1)) th0).n))])]]) ?_
 refine Wl.dn 10 (Wc.seq (Wc.w0 [(15,(.bool true))] ?_))
 refine Wc.ct (Wc.seq (Wc.wn0 [(3,(.bool true))] (hp [.row 0 98 2 0 (some 1) [(.agg [(.sl 1 0 0 (Int.toNat ((n:Int)-1)) none),(mo)])],.row 0 57 6 0 none (List.map encT lt),.row 0 57 6 0 (some 1) [(.agg [(.int .i64 ((List.getD lt (Int.toNat ((n:Int)-1)) th0).d.kind)),(.str ((List.getD lt (Int.toNat ((n:Int)-1)) th0).d.text)),(.int .i64 ((List.getD lt (Int.toNat ((n:Int)-1)) th0).d.n)),(.osl 4 (esD (List.getD lt (Int.toNat ((n:Int)-1)) th0).d)),(.bool ((List.getD lt (Int.toNat ((n:Int)-1)) th0).flat)),(.int .i64 ((List.getD lt (Int.toNat ((n:Int)-1)) th0).n))])],.row 0 57 6 0 (some 1) [(.agg [(.int .i64 ((List.getD lt (Int.toNat ((n:Int)-1)) th0).d.kind)),(.str ((List.getD lt (Int.toNat ((n:Int)-1)) th0).d.text)),(.int .i64 ((List.getD lt (Int.toNat ((n:Int)-1)) th0).d.n)),(.osl 4 (esD (List.getD lt (Int.toNat ((n:Int)-1)) th0).d)),(.bool ((List.getD lt (Int.toNat ((n:Int)-1)) th0).flat)),(.int .i64 ((List.getD lt (Int.toNat ((n:Int)-1)) th0).n))])],.row 0 57 6 0 (some 1) [(.agg [(.int .i64 ((List.getD lt (Int.toNat ((n:Int)-1)) th0).d.kind)),(.str ((List.getD lt (Int.toNat ((n:Int)-1)) th0).d.text)),(.int .i64 ((List.getD lt (Int.toNat ((n:Int)-1)) th0).d.n)),(.osl 4 (esD (List.getD lt (Int.toNat ((n:Int)-1)) th0).d)),(.bool ((List.getD lt (Int.toNat ((n:Int)-1)) th0).flat)),(.int .i64 ((List.getD lt (Int.toNat ((n:Int)-1)) th0).n))])]]) ?_))
 refine Wc.ret ?_
 refine retX.mk (.tup [(.agg [(.int .i64 ((List.getD lt (Int.toNat ((n:Int)-1)) th0).d.kind)),(.str ((List.getD lt (Int.toNat ((n:Int)-1)) th0).d.text)),(.int .i64 ((List.getD lt (Int.toNat ((n:Int)-1)) th0).d.n)),(.osl 4 (esD (List.getD lt (Int.toNat ((n:Int)-1)) th0).d)),(.bool ((List.getD lt (Int.toNat ((n:Int)-1)) th0).flat)),(.int .i64 ((List.getD lt (Int.toNat ((n:Int)-1)) th0).n))]),(.bool true)]) ⟨rfl,rfl⟩ (by kernel_rfl) ?_
 rw [hnl] at hgt
 simp only [hnl,hgt]
 exact ⟨rfl,rfl⟩
theorem xz2 {es:List V} {rl:List Th} {n:Nat} {t:Th} (hn:n=rl.length+1) (hl:n≤1000000):Cs Tryd.prog EU 58 [.ptr 0 0 0] (hp [.row 0 98 2 0 (some 1) [.agg [.sl 1 0 0 0 none,.osl 6 ((rl++[t]).map encT)]],.row 0 57 6 0 none es]) (.tup [encT t,.bool true]) (hp [.row 0 98 2 0 (some 1) [.agg [.sl 1 0 0 0 none,.osl 6 (rl.map encT)]],.row 0 57 6 0 none es,.row 0 57 6 0 (some 1) [encT t],.row 0 57 6 0 (some 1) [.agg [.int .i64 0,.str [],.int .i64 0,.nils,.bool false,.int .i64 0]],.row 0 57 6 0 (some 1) [.agg [.int .i64 0,.str [],.int .i64 0,.nils,.bool false,.int .i64 0]],.row 0 57 6 0 (some 1) [encT t]]):=by
 refine Cs.body (fn:=Tryd.f58) Tryd.func58 rfl (by kernel_rfl) ?_
 have hll:(rl++[t]).length=n:=by rw [List.length_append,hn];rfl
 have hmm:((rl++[t]).map encT).length=n:=by rw [List.length_map,hll]
 have hgt:(rl++[t]).getD (Int.toNat ((n:Int)-1)) th0=t:=by rw [show Int.toNat ((n:Int)-1)=rl.length by omega];simp
 have hnl:Int.toNat ((n:Int)-1)=rl.length:=by omega
 have htk:((rl++[t]).map encT).take rl.length=rl.map encT:=by rw [← List.map_take,List.take_left'];rfl
 have hne:(rl++[t]).map encT≠[]:=by simp
 generalize hlt:rl++[t]=lt at *
 refine Wc.seq (Wc.wn0 [(0,(.ptr 0 0 0)),(2,(.ptr 2 0 0)),(3,(.bool false))] (hp [.row 0 98 2 0 (some 1) [(.agg [(.sl 1 0 0 0 none),(.osl 6 (List.map encT lt))])],.row 0 57 6 0 none (es),.row 0 57 6 0 (some 1) [(.agg [(.int .i64 0),(.str []),(.int .i64 0),.nils,(.bool false),(.int .i64 0)])]]) ?_)
 refine Wc.seq (Wc.seq (Wc.enter (Wl.b0 0 3 [(11,(.ptr 0 0 0))] ?_)))
 refine Wl.callI (b:=(base 58 44)) (h1:=(hp [.row 0 98 2 0 (some 1) [(.agg [(.sl 1 0 0 0 none),(.osl 6 (List.map encT lt))])],.row 0 57 6 0 none (es),.row 0 57 6 0 (some 1) [(.agg [(.int .i64 0),(.str []),(.int .i64 0),.nils,(.bool false),(.int .i64 0)])]])) (args:=[(.ptr 0 0 0)]) (d:=(some 12)) (fn:=Go.Proofs.Tryd.f31) 3 Go.Proofs.Tryd.func31 rfl (by kernel_rfl) (by kernel_rfl) ?_
 refine Wc.seq (Wc.wn0 [(0,(.ptr 0 0 0)),(2,(.ptr 3 0 0)),(3,(.bool false))] (hp [.row 0 98 2 0 (some 1) [(.agg [(.sl 1 0 0 0 none),(.osl 6 (List.map encT lt))])],.row 0 57 6 0 none (es),.row 0 57 6 0 (some 1) [(.agg [(.int .i64 0),(.str []),(.int .i64 0),.nils,(.bool false),(.int .i64 0)])],.row 0 57 6 0 (some 1) [(.agg [(.int .i64 0),(.str []),(.int .i64 0),.nils,(.bool false),(.int .i64 0)])]]) ?_)
 refine Wc.seq (Wc.seq (Wc.w0 [(9,(.bool true))] ?_))
 refine Wc.ct (Wc.seq (Wc.w0 [] ?_))
 refine Wc.ret ?_
 refine retX.mk (.tup [(.agg [(.int .i64 0),(.str []),(.int .i64 0),.nils,(.bool false),(.int .i64 0)]),(.bool false)]) ⟨rfl,rfl⟩ (by kernel_rfl) ?_
 refine q60.mk [0,2,3,12] [(0,(.ptr 0 0 0)),(2,(.ptr 2 0 0)),(3,(.bool false)),(12,(.tup [(.agg [(.int .i64 0),(.str []),(.int .i64 0),.nils,(.bool false),(.int .i64 0)]),(.bool false)]))] (by kernel_rfl) ?_
 refine Wl.bn0 4 10 [(4,(.ptr 4 0 0)),(5,(.bool false))] (hp [.row 0 98 2 0 (some 1) [(.agg [(.sl 1 0 0 0 none),(.osl 6 (List.map encT lt))])],.row 0 57 6 0 none (es),.row 0 57 6 0 (some 1) [(.agg [(.int .i64 0),(.str []),(.int .i64 0),.nils,(.bool false),(.int .i64 0)])],.row 0 57 6 0 (some 1) [(.agg [(.int .i64 0),(.str []),(.int .i64 0),.nils,(.bool false),(.int .i64 0)])],.row 0 57 6 0 (some 1) [(.agg [(.int .i64 0),(.str []),(.int .i64 0),.nils,(.bool false),(.int .i64 0)])]]) ?_
 refine Wl.dn 10 (Wc.seq (Wc.w0 [(15,(.bool false))] ?_))
 refine Wc.cf (Wc.skip (Wc.seq (Wc.seq (Wc.w0 [(6,(.int .i64 ((List.length (List.map encT lt):Int))))] ?_))))
 refine Wc.seq (Wc.w0 [(23,(.bool (decide (0<(List.length (List.map encT lt):Int)))))] ?_)
 refine Wc.cq (p:=0<(List.length (List.map encT lt):Int)) (fun c1=>?_) (fun c1=>absurd (show 0<(List.length (List.map encT lt):Int) from (by omega)) c1)
 refine Wc.seq (Wc.enter (Wl.bs 0 7 [(30,(.gptr 6 (List.map encT lt) (Int.toNat ((List.length (List.map encT lt):Int)-1)*6)))] [(i64r ((List.length (List.map encT lt):Int)-1)),((0≤(List.length (List.map encT lt):Int)-1)∧((List.length (List.map encT lt):Int)-1<(List.length (List.map encT lt):Int)))] (.cons (by omega) (.cons (by omega) .nil)) ?_))
 refine Wl.l 7 [(31,(.agg [(.int .i64 ((List.getD lt (Int.toNat ((List.length (List.map encT lt):Int)-1)) th0).d.kind)),(.str ((List.getD lt (Int.toNat ((List.length (List.map encT lt):Int)-1)) th0).d.text)),(.int .i64 ((List.getD lt (Int.toNat ((List.length (List.map encT lt):Int)-1)) th0).d.n)),(.osl 4 (esD (List.getD lt (Int.toNat ((List.length (List.map encT lt):Int)-1)) th0).d)),(.bool ((List.getD lt (Int.toNat ((List.length (List.map encT lt):Int)-1)) th0).flat)),(.int .i64 ((List.getD lt (Int.toNat ((List.length (List.map encT lt):Int)-1)) th0).n))]))] (@Go.AM.ldTh (hp [Obj.row 0 98 2 0 (some 1) [V.agg [V.sl 1 0 0 0 none,V.osl 6 (List.map encT lt)]],Obj.row 0 57 6 0 none es,Obj.row 0 57 6 0 (some 1) [V.agg [V.int .i64 0,V.str [],V.int .i64 0,V.nils,V.bool false,V.int .i64 0]],Obj.row 0 57 6 0 (some 1) [V.agg [V.int .i64 0,V.str [],V.int .i64 0,V.nils,V.bool false,V.int .i64 0]],Obj.row 0 57 6 0 (some 1) [V.agg [V.int .i64 0,V.str [],V.int .i64 0,V.nils,V.bool false,V.int .i64 0]]]) (lt) (Int.toNat ((List.length (List.map encT lt):Int)-1)) (by omega)) ?_
 refine Wl.bn0 8 10 [(7,(.ptr 5 0 0))] (hp [.row 0 98 2 0 (some 1) [(.agg [(.sl 1 0 0 0 none),(.osl 6 (List.map encT lt))])],.row 0 57 6 0 none (es),.row 0 57 6 0 (some 1) [(.agg [(.int .i64 0),(.str []),(.int .i64 0),.nils,(.bool false),(.int .i64 0)])],.row 0 57 6 0 (some 1) [(.agg [(.int .i64 0),(.str []),(.int .i64 0),.nils,(.bool false),(.int .i64 0)])],.row 0 57 6 0 (some 1) [(.agg [(.int .i64 0),(.str []),(.int .i64 0),.nils,(.bool false),(.int .i64 0)])],.row 0 57 6 0 (some 1) [(.agg [(.int .i64 ((List.getD lt (Int.toNat ((List.length (List.map encT lt):Int)-1)) th0).d.kind)),(.str ((List.getD lt (Int.toNat ((List.length (List.map encT lt):Int)-1)) th0).d.text)),(.int .i64 ((List.getD lt (Int.toNat ((List.length (List.map encT lt):Int)-1)) th0).d.n)),(.osl 4 (esD (List.getD lt (Int.toNat ((List.length (List.map encT lt):Int)-1)) th0).d)),(.bool ((List.getD lt (Int.toNat ((List.length (List.map encT lt):Int)-1)) th0).flat)),(.int .i64 ((List.getD lt (Int.toNat ((List.length (List.map encT lt):Int)-1)) th0).n))])]]) ?_
 refine Wl.dn 10 (Wc.seq (Wc.enter (Wl.bs 0 7 [(32,(.ptr 0 0 0)),(36,(.osl 6 (List.map encT lt))),(38,(.int .i64 ((List.length (List.map encT lt):Int)-1)))] [(i64r ((List.length (List.map encT lt):Int)-1))] (.cons (by omega) .nil) ?_)))
 refine Wl.view (Vw.slot (b:=base 58 44) (L':=[(0,(.ptr 0 0 0)),(2,(.ptr 2 0 0)),(3,(.bool false)),(4,(.ptr 4 0 0)),(5,(.bool false)),(6,(.int .i64 ((List.length (List.map encT lt):Int)))),(7,(.ptr 5 0 0)),(15,(.bool false)),(23,(.bool (decide (0<(List.length (List.map encT lt):Int))))),(32,(.ptr 0 0 0)),(36,(.gsl 6 (List.map encT lt) none)),(38,(.int .i64 ((List.length (List.map encT lt):Int)-1)))]) 36 (.osl 6 (List.map encT lt)) (.gsl 6 (List.map encT lt) none) [0,2,3,4,5,6,7,15,23,32,36,38] (by kernel_rfl) (z38 hne) (by simp [lost]) (by kernel_rfl) (by kernel_rfl)) ?_
 refine Wl.bn 7 11 [(0,(.ptr 0 0 0)),(2,(.ptr 2 0 0)),(3,(.bool false)),(4,(.ptr 4 0 0)),(5,(.bool false)),(6,(.int .i64 ((List.length (List.map encT lt):Int)))),(7,(.ptr 5 0 0)),(15,(.bool false)),(23,(.bool (decide (0<(List.length (List.map encT lt):Int)))))] (hp [.row 0 98 2 0 (some 1) [(.agg [(.sl 1 0 0 0 none),(.gsl 6 (List.take (Int.toNat ((List.length (List.map encT lt):Int)-1)) (List.map encT lt)) none)])],.row 0 57 6 0 none (es),.row 0 57 6 0 (some 1) [(.agg [(.int .i64 0),(.str []),(.int .i64 0),.nils,(.bool false),(.int .i64 0)])],.row 0 57 6 0 (some 1) [(.agg [(.int .i64 0),(.str []),(.int .i64 0),.nils,(.bool false),(.int .i64 0)])],.row 0 57 6 0 (some 1) [(.agg [(.int .i64 0),(.str []),(.int .i64 0),.nils,(.bool false),(.int .i64 0)])],.row 0 57 6 0 (some 1) [(.agg [(.int .i64 ((List.getD lt (Int.toNat ((List.length (List.map encT lt):Int)-1)) th0).d.kind)),(.str ((List.getD lt (Int.toNat ((List.length (List.map encT lt):Int)-1)) th0).d.text)),(.int .i64 ((List.getD lt (Int.toNat ((List.length (List.map encT lt):Int)-1)) th0).d.n)),(.osl 4 (esD (List.getD lt (Int.toNat ((List.length (List.map encT lt):Int)-1)) th0).d)),(.bool ((List.getD lt (Int.toNat ((List.length (List.map encT lt):Int)-1)) th0).flat)),(.int .i64 ((List.getD lt (Int.toNat ((List.length (List.map encT lt):Int)-1)) th0).n))])]]) [((0≤(List.length (List.map encT lt):Int)-1)∧((List.length (List.map encT lt):Int)-1≤(List.length (List.map encT lt):Int)))] (.cons (by omega) .nil) ?_
 refine Wl.dn 11 (Wc.seq ?_)
 rw [hnl] at hgt
 simp only [hmm,hnl,htk,hgt]
 refine Wc.view (Vw.row (ver:=0) (ty:=98) (sz:=2) (pub:=0) (cap:=some 1) (es:=[.agg [.sl 1 0 0 0 none,.gsl 6 (rl.map encT) none]]) 0 [.agg [.sl 1 0 0 0 none,.osl 6 (rl.map encT)]] (by kernel_rfl) (Nat.zero_le _) (Nat.le_refl 1) (zm4 (zw3 .gsl))) ?_
 refine Wc.wn0 [(0,(.ptr 0 0 0)),(2,(.ptr 2 0 0)),(3,(.bool true)),(4,(.ptr 4 0 0)),(5,(.bool false)),(6,(.int .i64 (n:Int))),(7,(.ptr 5 0 0)),(15,(.bool false)),(23,(.bool (decide (0<(n:Int)))))] (hp [.row 0 98 2 0 (some 1) [(.agg [(.sl 1 0 0 0 none),(.osl 6 (List.map encT rl))])],.row 0 57 6 0 none (es),.row 0 57 6 0 (some 1) [(.agg [(.int .i64 (t.d.kind)),(.str (t.d.text)),(.int .i64 (t.d.n)),(.osl 4 (esD t.d)),(.bool (t.flat)),(.int .i64 (t.n))])],.row 0 57 6 0 (some 1) [(.agg [(.int .i64 0),(.str []),(.int .i64 0),.nils,(.bool false),(.int .i64 0)])],.row 0 57 6 0 (some 1) [(.agg [(.int .i64 0),(.str []),(.int .i64 0),.nils,(.bool false),(.int .i64 0)])],.row 0 57 6 0 (some 1) [(.agg [(.int .i64 (t.d.kind)),(.str (t.d.text)),(.int .i64 (t.d.n)),(.osl 4 (esD t.d)),(.bool (t.flat)),(.int .i64 (t.n))])]]) ?_
 refine Wc.ret ?_
 refine retX.mk (.tup [(.agg [(.int .i64 (t.d.kind)),(.str (t.d.text)),(.int .i64 (t.d.n)),(.osl 4 (esD t.d)),(.bool (t.flat)),(.int .i64 (t.n))]),(.bool true)]) ⟨rfl,rfl⟩ (by kernel_rfl) ?_
 exact ⟨by kernel_rfl,by kernel_rfl⟩
theorem cNextB3 {es:List V}:Cs Tryd.prog EU 58 [.ptr 0 0 0] (hp [.row 0 98 2 0 (some 1) [.agg [.sl 1 0 0 0 none,.osl 6 []]],.row 0 57 6 0 none es]) (.tup [.agg [.int .i64 0,.str [],.int .i64 0,.nils,.bool false,.int .i64 0],.bool false]) (hp [.row 0 98 2 0 (some 1) [.agg [.sl 1 0 0 0 none,.osl 6 []]],.row 0 57 6 0 none es,.row 0 57 6 0 (some 1) [.agg [.int .i64 0,.str [],.int .i64 0,.nils,.bool false,.int .i64 0]],.row 0 57 6 0 (some 1) [.agg [.int .i64 0,.str [],.int .i64 0,.nils,.bool false,.int .i64 0]],.row 0 57 6 0 (some 1) [.agg [.int .i64 0,.str [],.int .i64 0,.nils,.bool false,.int .i64 0]]]):=by
 refine Cs.body (fn:=Tryd.f58) Tryd.func58 rfl (by kernel_rfl) ?_
 refine Wc.seq ?_
 let v1:V:=(.agg [(.sl 1 0 0 0 none),(.osl 6 [])])
 let v2:Obj:=.row 0 98 2 0 (some 1) [v1]
 let v3:V:=(.agg [(.int .i64 0),(.str []),(.int .i64 0),.nils,(.bool false),(.int .i64 0)])
 let v4:Obj:=.row 0 57 6 0 (some 1) [v3]
 let v5:Heap:=(hp [v2,.row 0 57 6 0 none (es),v4])
 refine Wc.wn0 [(0,(.ptr 0 0 0)),(2,(.ptr 2 0 0)),(3,(.bool false))] v5 ?_
 refine Wc.seq (Wc.seq (Wc.enter (Wl.b0 0 3 [(11,(.ptr 0 0 0))] ?_)))
 refine Wl.callI (b:=(base 58 44)) (h1:=v5) (args:=[(.ptr 0 0 0)]) (d:=(some 12)) (fn:=Go.Proofs.Tryd.f31) 3 Go.Proofs.Tryd.func31 rfl (by kernel_rfl) (by kernel_rfl) ?_
 refine Wc.seq (Wc.wn0 [(0,(.ptr 0 0 0)),(2,(.ptr 3 0 0)),(3,(.bool false))] (hp [v2,.row 0 57 6 0 none (es),v4,v4]) ?_)
 refine Wc.seq (Wc.seq (Wc.w0 [(9,(.bool true))] ?_))
 refine Wc.ct (Wc.seq (Wc.w0 [] ?_))
 refine Wc.ret ?_
 refine retX.mk (.tup [(.agg [(.int .i64 0),(.str []),(.int .i64 0),.nils,(.bool false),(.int .i64 0)]),(.bool false)]) ⟨rfl,rfl⟩ (by kernel_rfl) ?_
 refine q60.mk [0,2,3,12] [(0,(.ptr 0 0 0)),(2,(.ptr 2 0 0)),(3,(.bool false)),(12,(.tup [(.agg [(.int .i64 0),(.str []),(.int .i64 0),.nils,(.bool false),(.int .i64 0)]),(.bool false)]))] (by kernel_rfl) ?_
 refine Wl.bn0 4 10 [(4,(.ptr 4 0 0)),(5,(.bool false))] (hp [v2,.row 0 57 6 0 none (es),v4,v4,v4]) ?_
 refine Wl.dn 10 (Wc.seq (Wc.w0 [(15,(.bool false))] ?_))
 refine Wc.cf (Wc.skip (Wc.seq (Wc.seq (Wc.w0 [(6,(.int .i64 0))] ?_))))
 refine Wc.seq (Wc.w0 [(23,(.bool false))] ?_)
 refine Wc.cf (Wc.skip (Wc.seq (Wc.w0 [] ?_)))
 refine Wc.ret ?_
 refine retX.mk (.tup [(.agg [(.int .i64 0),(.str []),(.int .i64 0),.nils,(.bool false),(.int .i64 0)]),(.bool false)]) ⟨rfl,rfl⟩ (by kernel_rfl) ?_
 exact ⟨by kernel_rfl,by kernel_rfl⟩
theorem xx7 {rl:List Th} {n:Nat} {t:Th} (hn:n=rl.length+1) (hl:n≤1000000):Cs Tryd.prog EU 58 [.ptr 0 0 0] (hp [.row 0 98 2 0 (some 1) [.agg [.nils,.osl 6 ((rl++[t]).map encT)]]]) (.tup [encT t,.bool true]) (hp [.row 0 98 2 0 (some 1) [.agg [.nils,.osl 6 (rl.map encT)]],.row 0 57 6 0 (some 1) [encT t],.row 0 57 6 0 (some 1) [.agg [.int .i64 0,.str [],.int .i64 0,.nils,.bool false,.int .i64 0]],.row 0 57 6 0 (some 1) [.agg [.int .i64 0,.str [],.int .i64 0,.nils,.bool false,.int .i64 0]],.row 0 57 6 0 (some 1) [encT t]]):=by
 refine Cs.body (fn:=Tryd.f58) Tryd.func58 rfl (by kernel_rfl) ?_
 have hll:(rl++[t]).length=n:=by rw [List.length_append,hn];rfl
 have hmm:((rl++[t]).map encT).length=n:=by rw [List.length_map,hll]
 have hgt:(rl++[t]).getD (Int.toNat ((n:Int)-1)) th0=t:=by rw [show Int.toNat ((n:Int)-1)=rl.length by omega];simp
 have hnl:Int.toNat ((n:Int)-1)=rl.length:=by omega
 have htk:((rl++[t]).map encT).take rl.length=rl.map encT:=by rw [← List.map_take,List.take_left'];rfl
 have hne:(rl++[t]).map encT≠[]:=by simp
 generalize hlt:rl++[t]=lt at *
 refine Wc.seq (Wc.wn0 [(0,(.ptr 0 0 0)),(2,(.ptr 1 0 0)),(3,(.bool false))] (hp [.row 0 98 2 0 (some 1) [(.agg [.nils,(.osl 6 (List.map encT lt))])],.row 0 57 6 0 (some 1) [(.agg [(.int .i64 0),(.str []),(.int .i64 0),.nils,(.bool false),(.int .i64 0)])]]) ?_)
 refine Wc.seq (Wc.seq (Wc.enter (Wl.b0 0 3 [(11,(.ptr 0 0 0))] ?_)))
 refine Wl.callI (b:=(base 58 44)) (h1:=(hp [.row 0 98 2 0 (some 1) [(.agg [.nils,(.osl 6 (List.map encT lt))])],.row 0 57 6 0 (some 1) [(.agg [(.int .i64 0),(.str []),(.int .i64 0),.nils,(.bool false),(.int .i64 0)])]])) (args:=[(.ptr 0 0 0)]) (d:=(some 12)) (fn:=Go.Proofs.Tryd.f31) 3 Go.Proofs.Tryd.func31 rfl (by kernel_rfl) (by kernel_rfl) ?_
 refine Wc.seq (Wc.wn0 [(0,(.ptr 0 0 0)),(2,(.ptr 2 0 0)),(3,(.bool false))] (hp [.row 0 98 2 0 (some 1) [(.agg [.nils,(.osl 6 (List.map encT lt))])],.row 0 57 6 0 (some 1) [(.agg [(.int .i64 0),(.str []),(.int .i64 0),.nils,(.bool false),(.int .i64 0)])],.row 0 57 6 0 (some 1) [(.agg [(.int .i64 0),(.str []),(.int .i64 0),.nils,(.bool false),(.int .i64 0)])]]) ?_)
 refine Wc.seq (Wc.seq (Wc.w0 [(9,(.bool true))] ?_))
 refine Wc.ct (Wc.seq (Wc.w0 [] ?_))
 refine Wc.ret ?_
 refine retX.mk (.tup [(.agg [(.int .i64 0),(.str []),(.int .i64 0),.nils,(.bool false),(.int .i64 0)]),(.bool false)]) ⟨rfl,rfl⟩ (by kernel_rfl) ?_
 refine q60.mk [0,2,3,12] [(0,(.ptr 0 0 0)),(2,(.ptr 1 0 0)),(3,(.bool false)),(12,(.tup [(.agg [(.int .i64 0),(.str []),(.int .i64 0),.nils,(.bool false),(.int .i64 0)]),(.bool false)]))] (by kernel_rfl) ?_
 refine Wl.bn0 4 10 [(4,(.ptr 3 0 0)),(5,(.bool false))] (hp [.row 0 98 2 0 (some 1) [(.agg [.nils,(.osl 6 (List.map encT lt))])],.row 0 57 6 0 (some 1) [(.agg [(.int .i64 0),(.str []),(.int .i64 0),.nils,(.bool false),(.int .i64 0)])],.row 0 57 6 0 (some 1) [(.agg [(.int .i64 0),(.str []),(.int .i64 0),.nils,(.bool false),(.int .i64 0)])],.row 0 57 6 0 (some 1) [(.agg [(.int .i64 0),(.str []),(.int .i64 0),.nils,(.bool false),(.int .i64 0)])]]) ?_
 refine Wl.dn 10 (Wc.seq (Wc.w0 [(15,(.bool false))] ?_))
 refine Wc.cf (Wc.skip (Wc.seq (Wc.seq (Wc.w0 [(6,(.int .i64 ((List.length (List.map encT lt):Int))))] ?_))))
 refine Wc.seq (Wc.w0 [(23,(.bool (decide (0<(List.length (List.map encT lt):Int)))))] ?_)
 refine Wc.cq (p:=0<(List.length (List.map encT lt):Int)) (fun c1=>?_) (fun c1=>absurd (show 0<(List.length (List.map encT lt):Int) from (by omega)) c1)
 refine Wc.seq (Wc.enter (Wl.bs 0 7 [(30,(.gptr 6 (List.map encT lt) (Int.toNat ((List.length (List.map encT lt):Int)-1)*6)))] [(i64r ((List.length (List.map encT lt):Int)-1)),((0≤(List.length (List.map encT lt):Int)-1)∧((List.length (List.map encT lt):Int)-1<(List.length (List.map encT lt):Int)))] (.cons (by omega) (.cons (by omega) .nil)) ?_))
 refine Wl.l 7 [(31,(.agg [(.int .i64 ((List.getD lt (Int.toNat ((List.length (List.map encT lt):Int)-1)) th0).d.kind)),(.str ((List.getD lt (Int.toNat ((List.length (List.map encT lt):Int)-1)) th0).d.text)),(.int .i64 ((List.getD lt (Int.toNat ((List.length (List.map encT lt):Int)-1)) th0).d.n)),(.osl 4 (esD (List.getD lt (Int.toNat ((List.length (List.map encT lt):Int)-1)) th0).d)),(.bool ((List.getD lt (Int.toNat ((List.length (List.map encT lt):Int)-1)) th0).flat)),(.int .i64 ((List.getD lt (Int.toNat ((List.length (List.map encT lt):Int)-1)) th0).n))]))] (@Go.AM.ldTh (hp [Obj.row 0 98 2 0 (some 1) [V.agg [V.nils,V.osl 6 (List.map encT lt)]],Obj.row 0 57 6 0 (some 1) [V.agg [V.int .i64 0,V.str [],V.int .i64 0,V.nils,V.bool false,V.int .i64 0]],Obj.row 0 57 6 0 (some 1) [V.agg [V.int .i64 0,V.str [],V.int .i64 0,V.nils,V.bool false,V.int .i64 0]],Obj.row 0 57 6 0 (some 1) [V.agg [V.int .i64 0,V.str [],V.int .i64 0,V.nils,V.bool false,V.int .i64 0]]]) (lt) (Int.toNat ((List.length (List.map encT lt):Int)-1)) (by omega)) ?_
 refine Wl.bn0 8 10 [(7,(.ptr 4 0 0))] (hp [.row 0 98 2 0 (some 1) [(.agg [.nils,(.osl 6 (List.map encT lt))])],.row 0 57 6 0 (some 1) [(.agg [(.int .i64 0),(.str []),(.int .i64 0),.nils,(.bool false),(.int .i64 0)])],.row 0 57 6 0 (some 1) [(.agg [(.int .i64 0),(.str []),(.int .i64 0),.nils,(.bool false),(.int .i64 0)])],.row 0 57 6 0 (some 1) [(.agg [(.int .i64 0),(.str []),(.int .i64 0),.nils,(.bool false),(.int .i64 0)])],.row 0 57 6 0 (some 1) [(.agg [(.int .i64 ((List.getD lt (Int.toNat ((List.length (List.map encT lt):Int)-1)) th0).d.kind)),(.str ((List.getD lt (Int.toNat ((List.length (List.map encT lt):Int)-1)) th0).d.text)),(.int .i64 ((List.getD lt (Int.toNat ((List.length (List.map encT lt):Int)-1)) th0).d.n)),(.osl 4 (esD (List.getD lt (Int.toNat ((List.length (List.map encT lt):Int)-1)) th0).d)),(.bool ((List.getD lt (Int.toNat ((List.length (List.map encT lt):Int)-1)) th0).flat)),(.int .i64 ((List.getD lt (Int.toNat ((List.length (List.map encT lt):Int)-1)) th0).n))])]]) ?_
 refine Wl.dn 10 (Wc.seq (Wc.enter (Wl.bs 0 7 [(32,(.ptr 0 0 0)),(36,(.osl 6 (List.map encT lt))),(38,(.int .i64 ((List.length (List.map encT lt):Int)-1)))] [(i64r ((List.length (List.map encT lt):Int)-1))] (.cons (by omega) .nil) ?_)))
 refine Wl.view (Vw.slot (b:=base 58 44) (L':=[(0,(.ptr 0 0 0)),(2,(.ptr 1 0 0)),(3,(.bool false)),(4,(.ptr 3 0 0)),(5,(.bool false)),(6,(.int .i64 ((List.length (List.map encT lt):Int)))),(7,(.ptr 4 0 0)),(15,(.bool false)),(23,(.bool (decide (0<(List.length (List.map encT lt):Int))))),(32,(.ptr 0 0 0)),(36,(.gsl 6 (List.map encT lt) none)),(38,(.int .i64 ((List.length (List.map encT lt):Int)-1)))]) 36 (.osl 6 (List.map encT lt)) (.gsl 6 (List.map encT lt) none) [0,2,3,4,5,6,7,15,23,32,36,38] (by kernel_rfl) (z38 hne) (by simp [lost]) (by kernel_rfl) (by kernel_rfl)) ?_
 refine Wl.bn 7 11 [(0,(.ptr 0 0 0)),(2,(.ptr 1 0 0)),(3,(.bool false)),(4,(.ptr 3 0 0)),(5,(.bool false)),(6,(.int .i64 ((List.length (List.map encT lt):Int)))),(7,(.ptr 4 0 0)),(15,(.bool false)),(23,(.bool (decide (0<(List.length (List.map encT lt):Int)))))] (hp [.row 0 98 2 0 (some 1) [(.agg [.nils,(.gsl 6 (List.take (Int.toNat ((List.length (List.map encT lt):Int)-1)) (List.map encT lt)) none)])],.row 0 57 6 0 (some 1) [(.agg [(.int .i64 0),(.str []),(.int .i64 0),.nils,(.bool false),(.int .i64 0)])],.row 0 57 6 0 (some 1) [(.agg [(.int .i64 0),(.str []),(.int .i64 0),.nils,(.bool false),(.int .i64 0)])],.row 0 57 6 0 (some 1) [(.agg [(.int .i64 0),(.str []),(.int .i64 0),.nils,(.bool false),(.int .i64 0)])],.row 0 57 6 0 (some 1) [(.agg [(.int .i64 ((List.getD lt (Int.toNat ((List.length (List.map encT lt):Int)-1)) th0).d.kind)),(.str ((List.getD lt (Int.toNat ((List.length (List.map encT lt):Int)-1)) th0).d.text)),(.int .i64 ((List.getD lt (Int.toNat ((List.length (List.map encT lt):Int)-1)) th0).d.n)),(.osl 4 (esD (List.getD lt (Int.toNat ((List.length (List.map encT lt):Int)-1)) th0).d)),(.bool ((List.getD lt (Int.toNat ((List.length (List.map encT lt):Int)-1)) th0).flat)),(.int .i64 ((List.getD lt (Int.toNat ((List.length (List.map encT lt):Int)-1)) th0).n))])]]) [((0≤(List.length (List.map encT lt):Int)-1)∧((List.length (List.map encT lt):Int)-1≤(List.length (List.map encT lt):Int)))] (.cons (by omega) .nil) ?_
 refine Wl.dn 11 (Wc.seq ?_)
 rw [hnl] at hgt
 simp only [hmm,hnl,htk,hgt]
 refine Wc.view (Vw.row (ver:=0) (ty:=98) (sz:=2) (pub:=0) (cap:=some 1) (es:=[.agg [.nils,.gsl 6 (rl.map encT) none]]) 0 [.agg [.nils,.osl 6 (rl.map encT)]] (by kernel_rfl) (Nat.zero_le _) (Nat.le_refl 1) (zm4 (zw3 .gsl))) ?_
 refine Wc.wn0 [(0,(.ptr 0 0 0)),(2,(.ptr 1 0 0)),(3,(.bool true)),(4,(.ptr 3 0 0)),(5,(.bool false)),(6,(.int .i64 (n:Int))),(7,(.ptr 4 0 0)),(15,(.bool false)),(23,(.bool (decide (0<(n:Int)))))] (hp [.row 0 98 2 0 (some 1) [(.agg [.nils,(.osl 6 (List.map encT rl))])],.row 0 57 6 0 (some 1) [(.agg [(.int .i64 (t.d.kind)),(.str (t.d.text)),(.int .i64 (t.d.n)),(.osl 4 (esD t.d)),(.bool (t.flat)),(.int .i64 (t.n))])],.row 0 57 6 0 (some 1) [(.agg [(.int .i64 0),(.str []),(.int .i64 0),.nils,(.bool false),(.int .i64 0)])],.row 0 57 6 0 (some 1) [(.agg [(.int .i64 0),(.str []),(.int .i64 0),.nils,(.bool false),(.int .i64 0)])],.row 0 57 6 0 (some 1) [(.agg [(.int .i64 (t.d.kind)),(.str (t.d.text)),(.int .i64 (t.d.n)),(.osl 4 (esD t.d)),(.bool (t.flat)),(.int .i64 (t.n))])]]) ?_
 refine Wc.ret ?_
 refine retX.mk (.tup [(.agg [(.int .i64 (t.d.kind)),(.str (t.d.text)),(.int .i64 (t.d.n)),(.osl 4 (esD t.d)),(.bool (t.flat)),(.int .i64 (t.n))]),(.bool true)]) ⟨rfl,rfl⟩ (by kernel_rfl) ?_
 exact ⟨by kernel_rfl,by kernel_rfl⟩
theorem cNextA3 :Cs Tryd.prog EU 58 [.ptr 0 0 0] (hp [.row 0 98 2 0 (some 1) [.agg [.nils,.osl 6 []]]]) (.tup [.agg [.int .i64 0,.str [],.int .i64 0,.nils,.bool false,.int .i64 0],.bool false]) (hp [.row 0 98 2 0 (some 1) [.agg [.nils,.osl 6 []]],.row 0 57 6 0 (some 1) [.agg [.int .i64 0,.str [],.int .i64 0,.nils,.bool false,.int .i64 0]],.row 0 57 6 0 (some 1) [.agg [.int .i64 0,.str [],.int .i64 0,.nils,.bool false,.int .i64 0]],.row 0 57 6 0 (some 1) [.agg [.int .i64 0,.str [],.int .i64 0,.nils,.bool false,.int .i64 0]]]):=by
 refine Cs.body (fn:=Tryd.f58) Tryd.func58 rfl (by kernel_rfl) ?_
 refine Wc.seq ?_
 let v1:Obj:=.row 0 98 2 0 (some 1) [(.agg [.nils,(.osl 6 [])])]
 let v2:V:=(.agg [(.int .i64 0),(.str []),(.int .i64 0),.nils,(.bool false),(.int .i64 0)])
 let v3:Obj:=.row 0 57 6 0 (some 1) [v2]
 let v4:Heap:=(hp [v1,v3])
 refine Wc.wn0 [(0,(.ptr 0 0 0)),(2,(.ptr 1 0 0)),(3,(.bool false))] v4 ?_
 refine Wc.seq (Wc.seq (Wc.enter (Wl.b0 0 3 [(11,(.ptr 0 0 0))] ?_)))
 refine Wl.callI (b:=(base 58 44)) (h1:=v4) (args:=[(.ptr 0 0 0)]) (d:=(some 12)) (fn:=Go.Proofs.Tryd.f31) 3 Go.Proofs.Tryd.func31 rfl (by kernel_rfl) (by kernel_rfl) ?_
 refine Wc.seq (Wc.wn0 [(0,(.ptr 0 0 0)),(2,(.ptr 2 0 0)),(3,(.bool false))] (hp [v1,v3,v3]) ?_)
 refine Wc.seq (Wc.seq (Wc.w0 [(9,(.bool true))] ?_))
 refine Wc.ct (Wc.seq (Wc.w0 [] ?_))
 refine Wc.ret ?_
 refine retX.mk (.tup [(.agg [(.int .i64 0),(.str []),(.int .i64 0),.nils,(.bool false),(.int .i64 0)]),(.bool false)]) ⟨rfl,rfl⟩ (by kernel_rfl) ?_
 refine q60.mk [0,2,3,12] [(0,(.ptr 0 0 0)),(2,(.ptr 1 0 0)),(3,(.bool false)),(12,(.tup [(.agg [(.int .i64 0),(.str []),(.int .i64 0),.nils,(.bool false),(.int .i64 0)]),(.bool false)]))] (by kernel_rfl) ?_
 refine Wl.bn0 4 10 [(4,(.ptr 3 0 0)),(5,(.bool false))] (hp [v1,v3,v3,v3]) ?_
 refine Wl.dn 10 (Wc.seq (Wc.w0 [(15,(.bool false))] ?_))
 refine Wc.cf (Wc.skip (Wc.seq (Wc.seq (Wc.w0 [(6,(.int .i64 0))] ?_))))
 refine Wc.seq (Wc.w0 [(23,(.bool false))] ?_)
 refine Wc.cf (Wc.skip (Wc.seq (Wc.w0 [] ?_)))
 refine Wc.ret ?_
 refine retX.mk (.tup [(.agg [(.int .i64 0),(.str []),(.int .i64 0),.nils,(.bool false),(.int .i64 0)]),(.bool false)]) ⟨rfl,rfl⟩ (by kernel_rfl) ?_
 exact ⟨by kernel_rfl,by kernel_rfl⟩
end Go.AM
namespace Go.AM
open Go.Proofs
set_option maxRecDepth 100000
set_option maxHeartbeats 4000000
theorem cPushF1Z {mo:V}:Cs Tryd.prog EU 30 [.ptr 0 0 0,.osl 6 (([]:List Th).map encT)] (hp [.row 0 98 2 0 (some 1) [.agg [.nils,mo]]]) undef (hp [.row 0 98 2 0 (some 1) [.agg [.nils,mo]]]):=x63 mo [] (Nat.zero_le _)
theorem cPushF1S {mo:V} {ks:List Th} {j:Nat} (hj:ks.length=j+1) (hk:ks.length≤100000):Cs Tryd.prog EU 30 [.ptr 0 0 0,.osl 6 (ks.map encT)] (hp [.row 0 98 2 0 (some 1) [.agg [.nils,mo]]]) undef (hp [.row 0 98 2 0 (some 1) [.agg [.sl 1 j 0 (j+1) none,mo]],.row j 57 6 0 none (ks.reverse.map encT)]):=by
 have h:=x63 mo ks hk
 rw [hj] at h
 have e:ks.reverse.take (j+1)=ks.reverse:=List.take_of_length_le (by rw [List.length_reverse];omega)
 have e2:zd6 mo ks (j+1)=hp [.row 0 98 2 0 (some 1) [.agg [.sl 1 j 0 (j+1) none,mo]],.row j 57 6 0 none (ks.reverse.map encT)]:=by
  rw [← e];rfl
 rw [e2] at h
 exact h
theorem cPushF2Z {mo:V} {o1:Obj}:Cs Tryd.prog EU 30 [.ptr 0 0 0,.osl 6 (([]:List Th).map encT)] (hp [.row 0 98 2 0 (some 1) [.agg [.nils,mo]],o1]) undef (hp [.row 0 98 2 0 (some 1) [.agg [.nils,mo]],o1]):=x58 mo o1 [] (Nat.zero_le _)
theorem xr3 {mo:V} {o1:Obj} {ks:List Th} {j:Nat} (hj:ks.length=j+1) (hk:ks.length≤100000):Cs Tryd.prog EU 30 [.ptr 0 0 0,.osl 6 (ks.map encT)] (hp [.row 0 98 2 0 (some 1) [.agg [.nils,mo]],o1]) undef (hp [.row 0 98 2 0 (some 1) [.agg [.sl 2 j 0 (j+1) none,mo]],o1,.row j 57 6 0 none (ks.reverse.map encT)]):=by
 have h:=x58 mo o1 ks hk
 rw [hj] at h
 have e:ks.reverse.take (j+1)=ks.reverse:=List.take_of_length_le (by rw [List.length_reverse];omega)
 have e2:zd0 mo o1 ks (j+1)=hp [.row 0 98 2 0 (some 1) [.agg [.sl 2 j 0 (j+1) none,mo]],o1,.row j 57 6 0 none (ks.reverse.map encT)]:=by
  rw [← e];rfl
 rw [e2] at h
 exact h
theorem cIdxF {a b:List UInt8} (ha:(10:UInt8)∉a):Cp Tryd.prog EU 70 [.str (a++10::b),.str [10]] (.int .i64 (a.length:Int)):=by
 obtain ⟨a',b',h1,h2,h3⟩:=q77 (a++10::b) (by simp)
 have h:=c35 (a++10::b)
 have e:a'=a:=by
  have key:∀ (x y u v:List UInt8),(10:UInt8)∉x→(10:UInt8)∉u→x++10::y=u++10::v→u=x:=by
   intro x
   induction x with
   | nil =>
    intro y u v _ hu he
    cases u with
    | nil=>rfl
    | cons c u=>simp at he;simp [he.1] at hu
   | cons c x IH =>
    intro y u v hx hu he
    cases u with
    | nil=>simp at he;simp [he.1] at hx
    | cons c' u =>
     simp at he hx hu
     obtain ⟨rfl,he⟩:=he
     rw [IH y u v hx.2 hu.2 he]
  exact key a b a' b' ha h2 h1
 rw [h3,e] at h
 exact h
theorem cIdxN {s:List UInt8} (h:(10:UInt8)∉s):Cp Tryd.prog EU 70 [.str s,.str [10]] (.int .i64 (-1)):=by
 have:=c35 s
 rw [qf2 s h] at this
 exact this
theorem cCut60F {a b:List UInt8} (ha:(10:UInt8)∉a) (hl:a.length≤1000000):Cp Tryd.prog EU 60 [.str (a++10::b),.str [10]] (.tup [.str a,.str b,.bool true]):=by
 have e1:(a++10::b).take a.length=a:=by simp
 have e2:(a++10::b).drop (a.length+1)=b:=by simp
 have e3:(a++10::b).length=a.length+b.length+1:=by simp;omega
 refine Cp.body (fn:=Tryd.f60) Tryd.func60 rfl (by kernel_rfl) ?_
 refine Wc.seq (Wc.wn0 [(0,(.str (a++10::b))),(1,(.str [10])),(4,(.str [])),(5,(.str [])),(6,(.bool false))] Heap.empty ?_)
 refine Wc.seq (Wc.seq (Wc.enter (Wl.b0 0 2 [(8,(.str (a++10::b))),(9,(.str [10]))] ?_)))
 refine Wl.c 2 [(10,(.int .i64 ((List.length a:Int))))] (@Go.AM.cIdxF (a) (b) ha) ?_
 refine Wl.b0 3 4 [(7,(.int .i64 ((List.length a:Int))))] ?_
 refine Wl.dn 4 (Wc.seq (Wc.w0 [(12,(.bool true))] ?_))
 refine Wc.ct (Wc.seq (Wc.drawn0 (by kernel_rfl) ?_))
 refine Dl.bs 0 12 [(4,(.str (List.take (List.length a) (a++10::b)))),(5,(.str (List.drop (Int.toNat ((List.length a:Int)+1)) (a++10::b)))),(6,(.bool true))] [((0≤(List.length a:Int))∧((List.length a:Int)≤(List.length (a++10::b):Int))),(i64r ((List.length a:Int)+1)),((0≤(List.length a:Int)+1)∧((List.length a:Int)+1≤(List.length (a++10::b):Int)))] (.cons (by omega) (.cons (by omega) (.cons (by omega) .nil))) ?_
 refine Dl.done 12 rfl ?_
 refine Wc.ret ?_
 refine retX.mk (.tup [(.str (List.take (List.length a) (a++10::b))),(.str (List.drop (Int.toNat ((List.length a:Int)+1)) (a++10::b))),(.bool true)]) ⟨rfl,rfl⟩ (by kernel_rfl) ?_
 rw [show Int.toNat ((a.length:Int)+1)=a.length+1 by omega,e1,e2];rfl
theorem cCut60N {s:List UInt8} (h:(10:UInt8)∉s):Cp Tryd.prog EU 60 [.str s,.str [10]] (.tup [.str s,.str [],.bool false]):=by
 refine Cp.body (fn:=Tryd.f60) Tryd.func60 rfl (by kernel_rfl) ?_
 refine Wc.seq (Wc.wn0 [(0,(.str s)),(1,(.str [10])),(4,(.str [])),(5,(.str [])),(6,(.bool false))] Heap.empty ?_)
 refine Wc.seq (Wc.seq (Wc.enter (Wl.b0 0 2 [(8,(.str s)),(9,(.str [10]))] ?_)))
 refine Wl.c 2 [(10,(.int .i64 (-1)))] (@Go.AM.cIdxN (s) h) ?_
 refine Wl.b0 3 4 [(7,(.int .i64 (-1)))] ?_
 refine Wl.dn 4 (Wc.seq (Wc.w0 [(12,(.bool false))] ?_))
 refine Wc.cf (Wc.skip (Wc.seq (Wc.w0 [(4,(.str s))] ?_)))
 refine Wc.ret ?_
 refine retX.mk (.tup [(.str s),(.str []),(.bool false)]) ⟨rfl,rfl⟩ (by kernel_rfl) ?_
 kernel_rfl
theorem cCutF {a b:List UInt8} (ha:(10:UInt8)∉a) (hl:a.length≤1000000):Cp Tryd.prog EU 41 [.str (a++10::b),.str [10]] (.tup [.str a,.str b,.bool true]):=by
 refine Cp.body (fn:=Tryd.f41) Tryd.func41 rfl (by kernel_rfl) ?_
 refine Wc.seq (Wc.wn0 [(0,(.str (a++10::b))),(1,(.str [10])),(4,(.str [])),(5,(.str [])),(6,(.bool false))] Heap.empty ?_)
 refine Wc.seq (Wc.enter (Wl.b0 0 2 [(7,(.str (a++10::b))),(8,(.str [10]))] ?_))
 refine Wl.c 2 [(9,(.tup [(.str a),(.str b),(.bool true)]))] (@Go.AM.cCut60F (a) (b) ha hl) ?_
 refine Wl.b0 3 9 [(4,(.str a)),(5,(.str b)),(6,(.bool true))] ?_
 refine Wl.dn 9 (Wc.ret ?_)
 refine retX.mk (.tup [(.str a),(.str b),(.bool true)]) ⟨rfl,rfl⟩ (by kernel_rfl) ?_
 kernel_rfl
theorem cCutN {s:List UInt8} (h:(10:UInt8)∉s):Cp Tryd.prog EU 41 [.str s,.str [10]] (.tup [.str s,.str [],.bool false]):=by
 refine Cp.body (fn:=Tryd.f41) Tryd.func41 rfl (by kernel_rfl) ?_
 refine Wc.seq (Wc.wn0 [(0,(.str s)),(1,(.str [10])),(4,(.str [])),(5,(.str [])),(6,(.bool false))] Heap.empty ?_)
 refine Wc.seq (Wc.enter (Wl.b0 0 2 [(7,(.str s)),(8,(.str [10]))] ?_))
 refine Wl.c 2 [(9,(.tup [(.str s),(.str []),(.bool false)]))] (@Go.AM.cCut60N (s) h) ?_
 refine Wl.b0 3 9 [(4,(.str s))] ?_
 refine Wl.dn 9 (Wc.ret ?_)
 refine retX.mk (.tup [(.str s),(.str []),(.bool false)]) ⟨rfl,rfl⟩ (by kernel_rfl) ?_
 kernel_rfl
end Go.AM
namespace Go.AM
open Go.Proofs
set_option maxRecDepth 100000
set_option maxHeartbeats 4000000
noncomputable def fitS (w:Int) (col:Int):Fr:=(base 36 76).on [(2,.int .i64 col),(3,.int .i64 w),(8,.bool false),(9,.ptr 0 0 0)]
noncomputable def fitH (own:Option (List Th)) (rl:List Th):Heap:=match own with
 | none=>hp [.row 0 98 2 0 (some 1) [.agg [.nils,.osl 6 (rl.map encT)]]]
 | some l=>hp [.row 0 98 2 0 (some 1) [.agg [.sl 1 0 0 l.length none,.osl 6 (rl.map encT)]],.row 0 57 6 0 none (l.map encT)]
def ownL (own:Option (List Th)):List Th:=match own with | none=>[] | some l=>l.reverse
theorem qz5 {b:Bool} (h:(!b)=true):¬ b=true:=by cases b <;> simp at h ⊢
theorem z12 {b:Bool} (h:(!b)=false):b=true:=by cases b <;> simp at h ⊢
theorem qh2 {w col':Int} {R:Bool} {own':Option (List Th)} {rl' L:List Th} {s:Fr} {h:Heap} {n:Nat} (hv:Vw 0 s h ((base 36 76).on [(2,.int .i64 col'),(3,.int .i64 w),(8,.bool false),(9,.ptr 0 0 0)]) (fitH own' rl')) (hL:ownL own'++rl'.reverse=L) (hk:∀ t,t∈L→okT t) (hs:sumT L≤100000) (hc:0≤col'∧col'+sumT L≤2000000000) (hf:y1 w L col'=R) (hn:w8 L<n) :
  ∃ a:Option (List Th)×List Th×Int,Vw 0 s h ((base 36 76).on [(2,.int .i64 a.2.2),(3,.int .i64 w),(8,.bool false),(9,.ptr 0 0 0)]) (fitH a.1 a.2.1)∧((∀ t,t∈ownL a.1++a.2.1.reverse→okT t)∧sumT (ownL a.1++a.2.1.reverse)≤100000∧(0≤a.2.2∧a.2.2+sumT (ownL a.1++a.2.1.reverse)≤2000000000)∧y1 w (ownL a.1++a.2.1.reverse) a.2.2=R)∧w8 (ownL a.1++a.2.1.reverse)<n :=
 ⟨(own',rl',col'),hv,⟨by simp only [hL];exact hk,by simp only [hL];exact hs,by simp only [hL];exact hc,by simp only [hL];exact hf⟩,by simp only [hL];exact hn⟩
theorem j87 {ks rl:List Th} {col w:Int} (hk:∀ t,t∈ks++rl.reverse→okT t) (hs:sumT (ks++rl.reverse)≤100000) (hc:0≤col∧col≤1000000000) (hw:-1000000000≤w∧w≤1000000000):Cp Tryd.prog EU 36 [.osl 6 (ks.map encT),.osl 6 (rl.map encT),.int .i64 col,.int .i64 w] (.bool (y1 w (ks++rl.reverse) col)):=by
 refine Cp.body (fn:=Tryd.f36) Tryd.func36 rfl (by kernel_rfl) ?_
 refine Wc.seq (Wc.wn0 [(0,(.osl 6 (List.map encT ks))),(1,(.osl 6 (List.map encT rl))),(2,(.int .i64 (col))),(3,(.int .i64 (w))),(8,(.bool false))] Heap.empty ?_)
 refine Wc.scope (Wc.seq (Wc.wn0 [(9,(.ptr 0 0 0))] (hp [.row 0 98 2 0 (some 1) [(.agg [.nils,(.osl 6 (List.map encT rl))])]]) ?_))
 refine Wc.seq ?_
 have hkl:ks.length≤100000:=by
  have:=qe6 (ks++rl.reverse)
  rw [List.length_append] at this;omega
 refine Wc.mid (fitS w col) (fitH (if ks=[] then none else some ks.reverse) rl) ?_ ?_
 ·by_cases h0:ks=[]
  ·subst h0
   rw [if_pos rfl]
   change Wc Tryd.prog EU _ _ _ (fun s1 h1=>Vw _ s1 h1 ((base 36 76).on [(2,.int .i64 col),(3,.int .i64 w),(8,.bool false),(9,.ptr 0 0 0)]) (hp [.row 0 98 2 0 (some 1) [.agg [.nils,.osl 6 (rl.map encT)]]])) _ _
   refine Wc.enter (Wl.bn0 0 4 [(0,(.osl 6 [])),(1,(.osl 6 (List.map encT rl))),(2,(.int .i64 (col))),(3,(.int .i64 (w))),(8,(.bool false)),(9,(.ptr 0 0 0)),(20,(.ptr 0 0 0)),(21,(.osl 6 []))] (hp [.row 0 98 2 0 (some 1) [(.agg [.nils,(.osl 6 (List.map encT rl))])]]) ?_)
   refine Wl.s 4 [] (@Go.AM.cPushF1Z (V.osl 6 (List.map encT rl))) ?_
   refine Wl.dn 5 ?_
   exact Vw.gk [(0,false)] [(0=0)] (.cons (by omega) .nil)
  rw [if_neg h0]
  obtain ⟨j,hj⟩:∃ j,ks.length=j+1:=⟨ks.length-1,by have:=List.length_pos_iff.2 h0;omega⟩
  change Wc Tryd.prog EU _ _ _ (fun s1 h1=>Vw _ s1 h1 ((base 36 76).on [(2,.int .i64 col),(3,.int .i64 w),(8,.bool false),(9,.ptr 0 0 0)]) (hp [.row 0 98 2 0 (some 1) [.agg [.sl 1 0 0 ks.reverse.length none,.osl 6 (rl.map encT)]],.row 0 57 6 0 none (ks.reverse.map encT)])) _ _
  rw [List.length_reverse,hj]
  refine Wc.enter ?_
  let v1:V:=(.agg [.nils,(.osl 6 (List.map encT rl))])
  let v2:Obj:=.row 0 98 2 0 (some 1) [v1]
  let v3:Heap:=(hp [v2])
  refine Wl.bn0 0 4 [(0,(.osl 6 (List.map encT ks))),(1,(.osl 6 (List.map encT rl))),(2,(.int .i64 (col))),(3,(.int .i64 (w))),(8,(.bool false)),(9,(.ptr 0 0 0)),(20,(.ptr 0 0 0)),(21,(.osl 6 (List.map encT ks)))] v3 ?_
  refine Wl.callS (b:=(base 36 76)) (h1:=v3) (h2:=(hp [.row 0 98 2 0 (some 1) [(.agg [(.sl 1 (?j) 0 (?j+1) none),(.osl 6 (List.map encT rl))])],.row (?j) 57 6 0 none (List.map encT (List.reverse ks))])) (v:=(.tup [])) (d:=(some 22)) 4 [0,1,2,3,8,9] [(0,(.osl 6 (List.map encT ks))),(1,(.osl 6 (List.map encT rl))),(2,(.int .i64 (col))),(3,(.int .i64 (w))),(8,(.bool false)),(9,(.ptr 0 0 0))] (@Go.AM.cPushF1S (V.osl 6 (List.map encT rl)) (ks) _ (by omega) hkl) (by kernel_rfl) (by kernel_rfl) ?_
  refine Wl.dn 5 ?_
  exact Vw.gk [(0,false),(1,true)] [(j=j),(∀ (e:V),e∈List.map encT (List.reverse ks)→x2 (x4 3) (V.cells e)=true),(0=0)] (.cons (by omega) (.cons (by exact x3 (fun _=>rfl) _) (.cons (by omega) .nil)))
 have ho:ks++rl.reverse=ownL (if ks=[] then none else some ks.reverse)++rl.reverse:=by
  by_cases h0:ks=[]
  ·rw [if_pos h0,h0];rfl
  rw [if_neg h0];simp [ownL]
 rw [ho] at hk hs ⊢
 generalize (if ks=[] then none else some ks.reverse)=own at *
 unfold fitS
 refine Wc.seq (Wc.label (Wc.seq (Wc.block ?_)))
 generalize hR:y1 w (ownL own++rl.reverse) col=R
 refine Wc.loopV (α:=Option (List Th)×List Th×Int) (fun a=>fitS w a.2.2) (fun a=>fitH a.1 a.2.1) (fun a=>(∀ t,t∈ownL a.1++a.2.1.reverse→okT t)∧sumT (ownL a.1++a.2.1.reverse)≤100000∧(0≤a.2.2∧a.2.2+sumT (ownL a.1++a.2.1.reverse)≤2000000000)∧y1 w (ownL a.1++a.2.1.reverse) a.2.2=R) (fun a=>w8 (ownL a.1++a.2.1.reverse)) (own,rl,col) (Vw.le (Le.on [2,3,8,9] (by kernel_rfl))) ⟨hk,hs,⟨hc.1,by simp only;omega⟩,hR⟩ ?_
 clear hk hs hc hR ho hkl
 rintro ⟨own,rl,col⟩ ⟨hk,hs,hc,hf⟩
 simp only at hk hs hc hf
 unfold fitS
 refine Wc.seq (Wc.seq (Wc.wn0 [(2,(.int .i64 (col))),(3,(.int .i64 (w))),(8,(.bool false)),(9,(.ptr 0 0 0)),(25,(.bool (decide (col≤w))))] (fitH own rl) ?_))
 refine Wc.cq (p:=col≤w) (fun c1=>?_) (fun c1=>?_)
 ·refine Wc.skip (Wc.block (Wc.seq ?_))
  have hwle:col≤w:=by assumption
  rcases own with _ | l
  ·rcases List.eq_nil_or_concat rl with h0 | ⟨rl',t,h0⟩
   ·subst h0
    change Wc Tryd.prog EU _ _ (hp [.row 0 98 2 0 (some 1) [.agg [.nils,.osl 6 []]]]) _ _ _
    have hRt:R=true:=by rw [← hf];exact zv1 hwle
    refine Wc.enter (Wl.bn0 0 1 [(2,(.int .i64 (col))),(3,(.int .i64 (w))),(8,(.bool false)),(9,(.ptr 0 0 0)),(25,(.bool (decide (col≤w)))),(27,(.ptr 0 0 0))] (hp [.row 0 98 2 0 (some 1) [(.agg [.nils,(.osl 6 [])])]]) ?_)
    refine Wl.s 1 [(28,(.tup [(.agg [(.int .i64 0),(.str []),(.int .i64 0),.nils,(.bool false),(.int .i64 0)]),(.bool false)]))] (@Go.AM.cNextA3) ?_
    refine Wl.bn0 2 8 [(10,(.ptr 4 0 0)),(11,(.bool false))] (hp [.row 0 98 2 0 (some 1) [(.agg [.nils,(.osl 6 [])])],.row 0 57 6 0 (some 1) [(.agg [(.int .i64 0),(.str []),(.int .i64 0),.nils,(.bool false),(.int .i64 0)])],.row 0 57 6 0 (some 1) [(.agg [(.int .i64 0),(.str []),(.int .i64 0),.nils,(.bool false),(.int .i64 0)])],.row 0 57 6 0 (some 1) [(.agg [(.int .i64 0),(.str []),(.int .i64 0),.nils,(.bool false),(.int .i64 0)])],.row 0 57 6 0 (some 1) [(.agg [(.int .i64 0),(.str []),(.int .i64 0),.nils,(.bool false),(.int .i64 0)])]]) ?_
    refine Wl.dn 8 (Wc.seq (Wc.seq (Wc.w0 [(32,(.bool true))] ?_)))
    refine Wc.ct (Wc.exit (z8.out rfl ?_))
    refine z8.here (Wc.seq (Wc.wn0 [(2,(.int .i64 (col))),(3,(.int .i64 (w))),(8,(.bool (decide (col≤w)))),(9,(.ptr 0 0 0)),(10,(.ptr 4 0 0)),(11,(.bool false)),(25,(.bool (decide (col≤w)))),(32,(.bool true))] (hp [.row 0 98 2 0 (some 1) [(.agg [.nils,(.osl 6 [])])],.row 0 57 6 0 (some 1) [(.agg [(.int .i64 0),(.str []),(.int .i64 0),.nils,(.bool false),(.int .i64 0)])],.row 0 57 6 0 (some 1) [(.agg [(.int .i64 0),(.str []),(.int .i64 0),.nils,(.bool false),(.int .i64 0)])],.row 0 57 6 0 (some 1) [(.agg [(.int .i64 0),(.str []),(.int .i64 0),.nils,(.bool false),(.int .i64 0)])],.row 0 57 6 0 (some 1) [(.agg [(.int .i64 0),(.str []),(.int .i64 0),.nils,(.bool false),(.int .i64 0)])]]) ?_))
    refine Wc.ret ?_
    refine retX.mk (.bool (decide (col≤w))) ⟨rfl,rfl⟩ (by kernel_rfl) ?_
    rw [hRt,decide_eq_true hwle];rfl
   have hL:ownL none++rl.reverse=t::rl'.reverse:=by rw [h0];simp [ownL]
   rw [hL] at hk hs hc hf ⊢
   have hrl:rl=rl'++[t]:=by rw [h0];simp
   subst hrl
   clear h0 hL
   have hot:=hk t (by simp)
   have hlen:=qe6 (t::rl'.reverse)
   rw [List.length_cons,List.length_reverse] at hlen
   refine Wc.mid ((base 36 76).on [(2,.int .i64 col),(3,.int .i64 w),(8,.bool false),(9,.ptr 0 0 0),(10,.ptr 1 0 0),(11,.bool true)]) (hp [.row 0 98 2 0 (some 1) [.agg [.nils,.osl 6 (rl'.map encT)]],.row 0 57 6 0 (some 1) [encT t]]) ?_ ?_
   ·change Wc Tryd.prog EU _ _ (hp [.row 0 98 2 0 (some 1) [.agg [.nils,.osl 6 ((rl'++[t]).map encT)]]]) _ _ _
    have hnx:=@xx7 rl' (rl'.length+1) t rfl (by omega)
    refine Wc.enter (Wl.bn0 0 1 [(2,(.int .i64 (col))),(3,(.int .i64 (w))),(8,(.bool false)),(9,(.ptr 0 0 0)),(25,(.bool (decide (col≤w)))),(27,(.ptr 0 0 0))] (hp [.row 0 98 2 0 (some 1) [(.agg [.nils,(.osl 6 (List.map encT (rl'++[t])))])]]) ?_)
    refine Wl.s 1 [(28,(.tup [(encT t),(.bool true)]))] hnx ?_
    refine Wl.bn0 2 8 [(10,(.ptr 5 0 0)),(11,(.bool true))] (hp [.row 0 98 2 0 (some 1) [(.agg [.nils,(.osl 6 (List.map encT rl'))])],.row 0 57 6 0 (some 1) [(encT t)],.row 0 57 6 0 (some 1) [(.agg [(.int .i64 0),(.str []),(.int .i64 0),.nils,(.bool false),(.int .i64 0)])],.row 0 57 6 0 (some 1) [(.agg [(.int .i64 0),(.str []),(.int .i64 0),.nils,(.bool false),(.int .i64 0)])],.row 0 57 6 0 (some 1) [(encT t)],.row 0 57 6 0 (some 1) [(.agg [(.int .i64 (t.d.kind)),(.str (t.d.text)),(.int .i64 (t.d.n)),(.osl 4 (esD t.d)),(.bool (t.flat)),(.int .i64 (t.n))])]]) ?_
    refine Wl.dn 8 ?_
    exact Vw.gk [(0,false),(5,false)] [(0=0),(0=0)] (.cons (by omega) (.cons (by omega) .nil))
   refine Wc.seq (Wc.seq (Wc.wn0 [(2,(.int .i64 (col))),(3,(.int .i64 (w))),(8,(.bool false)),(9,(.ptr 0 0 0)),(10,(.ptr 1 0 0)),(11,(.bool true)),(32,(.bool false))] (hp [.row 0 98 2 0 (some 1) [(.agg [.nils,(.osl 6 (List.map encT rl'))])],.row 0 57 6 0 (some 1) [(encT t)]]) ?_))
   refine Wc.cf (Wc.skip (Wc.seq (Wc.w0 [(35,(.int .i64 (t.d.kind)))] ?_)))
   refine Wc.block (Wc.seq (Wc.w0 [(44,(.bool (decide (t.d.kind=1))))] ?_))
   refine Wc.cq (p:=t.d.kind=1) (fun c2=>?_) (fun c2=>?_)
   ·refine Wc.seq (Wc.enter (Wl.b0 0 3 [(49,(.str (t.d.text)))] ?_))
    have hf':=hf
    rw [q08 hwle] at hf'
    have hsc:=j5 t rl'.reverse
    have htx:=y3 t.d
    have hw1:=q15 t.d.text
    rw [if_pos (by assumption)] at hf'
    by_cases hfd:(10:UInt8)∈t.d.text
    ·obtain ⟨x,y,h1,h2,h3⟩:=z05 hfd
     rw [(q46 _).2 hfd,if_pos rfl,h3] at hf'
     have hxl:x.length+y.length+1=t.d.text.length:=by rw [h1];simp;omega
     have hw2:=q15 x
     have hcx:=cCutF (b:=y) h2 (by have:=hot.2;omega)
     simp only [h1]
     refine Wl.c 3 [(2,(.int .i64 (col))),(3,(.int .i64 (w))),(8,(.bool false)),(9,(.ptr 0 0 0)),(10,(.ptr 1 0 0)),(11,(.bool true)),(32,(.bool false)),(35,(.int .i64 (t.d.kind))),(44,(.bool (decide (t.d.kind=1)))),(50,(.tup [(.str x),(.str y),(.bool true)]))] (@Go.AM.cCutF (x) (y) h2 (by omega)) ?_
     refine Wl.b0 4 11 [(12,(.str x)),(14,(.bool true))] ?_
     refine Wl.dn 11 (Wc.seq (Wc.enter (Wl.b0 0 2 [(54,(.int .i64 (col))),(55,(.str x))] ?_)))
     refine Wl.c 2 [(56,(.int .i64 ((wide x:Int))))] (@Go.AM.c16 (x) (by omega)) ?_
     refine Wl.bs 3 5 [(2,(.int .i64 (col+(wide x:Int))))] [(i64r (col+(wide x:Int)))] (.cons (by omega) .nil) ?_
     refine Wl.dn 5 (Wc.seq (Wc.w0 [(58,(.bool true))] ?_))
     refine Wc.ct (Wc.exit (z8.out rfl ?_))
     refine z8.out rfl ?_
     refine z8.here (Wc.seq (Wc.wn0 [(2,(.int .i64 (col+(wide x:Int)))),(3,(.int .i64 (w))),(8,(.bool (decide (col+(wide x:Int)≤w)))),(9,(.ptr 0 0 0)),(10,(.ptr 1 0 0)),(11,(.bool true)),(12,(.str x)),(14,(.bool true)),(32,(.bool false)),(35,(.int .i64 (t.d.kind))),(44,(.bool (decide (t.d.kind=1)))),(58,(.bool true))] (hp [.row 0 98 2 0 (some 1) [(.agg [.nils,(.osl 6 (List.map encT rl'))])],.row 0 57 6 0 (some 1) [(encT t)]]) ?_))
     refine Wc.ret ?_
     refine retX.mk (.bool (decide (col+(wide x:Int)≤w))) ⟨rfl,rfl⟩ (by kernel_rfl) ?_
     rw [← hf'];rfl
    have h0:q65 t.d.text=false:=by rw [Bool.eq_false_iff];exact fun q=>hfd ((q46 _).1 q)
    rw [h0,if_neg (by decide)] at hf'
    refine Wl.c 3 [(50,(.tup [(.str (t.d.text)),(.str []),(.bool false)]))] (@Go.AM.cCutN (t.d.text) hfd) ?_
    refine Wl.b0 4 11 [(12,(.str (t.d.text))),(14,(.bool false))] ?_
    refine Wl.dn 11 (Wc.seq (Wc.enter (Wl.b0 0 2 [(54,(.int .i64 (col))),(55,(.str (t.d.text)))] ?_)))
    refine Wl.c 2 [(56,(.int .i64 ((wide t.d.text:Int))))] (@Go.AM.c16 (t.d.text) (by omega)) ?_
    refine Wl.bs 3 5 [(2,(.int .i64 (col+(wide t.d.text:Int))))] [(i64r (col+(wide t.d.text:Int)))] (.cons (by omega) .nil) ?_
    refine Wl.dn 5 (Wc.seq (Wc.w0 [(58,(.bool false))] ?_))
    refine Wc.cf (Wc.skip ?_)
    refine qh2 (own':=none) (rl':=rl') (col':=col+(wide t.d.text:Int)) (L:=rl'.reverse) ?_ rfl (fun u hu=>hk u (by simp [hu])) (by omega) (by omega) hf' (y9 t _)
    ·change Vw 0 _ _ ((base 36 76).on [(2,.int .i64 (col+(wide t.d.text:Int))),(3,.int .i64 w),(8,.bool false),(9,.ptr 0 0 0)]) (hp [.row 0 98 2 0 (some 1) [.agg [.nils,.osl 6 (rl'.map encT)]]])
     exact Vw.gk [(0,false)] [(0=0)] (.cons (by omega) .nil)
   refine Wc.seq (Wc.w0 [(59,(.bool (decide (t.d.kind=4))))] ?_)
   refine Wc.cq (p:=t.d.kind=4) (fun c3=>?_) (fun c3=>?_)
   ·refine Wc.exit (z8.out rfl ?_)
    refine z8.out rfl ?_
    refine z8.here (Wc.seq (Wc.wn0 [(2,(.int .i64 (col))),(3,(.int .i64 (w))),(8,(.bool (decide (col≤w)))),(9,(.ptr 0 0 0)),(10,(.ptr 1 0 0)),(11,(.bool true)),(32,(.bool false)),(35,(.int .i64 (t.d.kind))),(44,(.bool (decide (t.d.kind=1)))),(59,(.bool (decide (t.d.kind=4))))] (hp [.row 0 98 2 0 (some 1) [(.agg [.nils,(.osl 6 (List.map encT rl'))])],.row 0 57 6 0 (some 1) [(encT t)]]) ?_))
    refine Wc.ret ?_
    refine retX.mk (.bool (decide (col≤w))) ⟨rfl,rfl⟩ (by kernel_rfl) ?_
    have hf':=hf
    rw [q08 hwle] at hf'
    have hsc:=j5 t rl'.reverse
    have htx:=y3 t.d
    rw [if_neg (by assumption),if_pos (by assumption)] at hf'
    rw [← hf',decide_eq_true hwle];rfl
   refine Wc.seq (Wc.seq (Wc.w0 [(61,(.bool (decide (t.d.kind=2))))] ?_))
   refine Wc.cq (p:=t.d.kind=2) (fun c4=>?_) (fun c4=>?_)
   ·refine Wc.skip ?_
    refine Wc.cq (p:=t.d.kind=2) (fun c5=>?_) (fun c5=>absurd (show t.d.kind=2 from c4) c5)
    refine Wc.seq (Wc.seq (Wc.w0 [(66,(.bool (!t.flat)))] ?_))
    refine Wc.cond (!t.flat) (by kernel_rfl) (by kernel_rfl) (fun c6=>?_) (fun c6=>?_)
    ·refine Wc.exit (z8.out rfl ?_)
     refine z8.out rfl ?_
     refine z8.here (Wc.seq (Wc.wn0 [(2,(.int .i64 (col))),(3,(.int .i64 (w))),(8,(.bool (decide (col≤w)))),(9,(.ptr 0 0 0)),(10,(.ptr 1 0 0)),(11,(.bool true)),(32,(.bool false)),(35,(.int .i64 (t.d.kind))),(44,(.bool (decide (t.d.kind=1)))),(59,(.bool (decide (t.d.kind=4)))),(61,(.bool (decide (t.d.kind=2)))),(66,(.bool (!t.flat)))] (hp [.row 0 98 2 0 (some 1) [(.agg [.nils,(.osl 6 (List.map encT rl'))])],.row 0 57 6 0 (some 1) [(encT t)]]) ?_))
     refine Wc.ret ?_
     refine retX.mk (.bool (decide (col≤w))) ⟨rfl,rfl⟩ (by kernel_rfl) ?_
     have hf':=hf
     rw [q08 hwle] at hf'
     have hsc:=j5 t rl'.reverse
     have htx:=y3 t.d
     rw [if_neg (by assumption),if_neg (by assumption),if_pos (.inl (by assumption)),if_neg (qz5 (by assumption))] at hf'
     rw [← hf',decide_eq_true hwle];rfl
    refine Wc.skip (Wc.seq (Wc.wn0 [(2,(.int .i64 (col))),(3,(.int .i64 (w))),(8,(.bool false)),(9,(.ptr 0 0 0)),(10,(.ptr 1 0 0)),(11,(.bool true)),(32,(.bool false)),(35,(.int .i64 (t.d.kind))),(44,(.bool (decide (t.d.kind=1)))),(59,(.bool (decide (t.d.kind=4)))),(61,(.bool (decide (t.d.kind=2)))),(66,(.bool (!t.flat))),(70,(.bool (decide (t.d.kind=2))))] (hp [.row 0 98 2 0 (some 1) [(.agg [.nils,(.osl 6 (List.map encT rl'))])],.row 0 57 6 0 (some 1) [(encT t)]]) ?_))
    refine Wc.cq (p:=t.d.kind=2) (fun c7=>?_) (fun c7=>absurd (show t.d.kind=2 from c4) c7)
    refine Wc.w [(2,(.int .i64 (col+1)))] [(i64r (col+1))] (.cons (by omega) .nil) ?_
    have hf':=hf
    rw [q08 hwle] at hf'
    have hsc:=j5 t rl'.reverse
    have htx:=y3 t.d
    rw [if_neg (by assumption),if_neg (by assumption),if_pos (.inl (by assumption)),if_pos (z12 (by assumption)),if_pos (by assumption)] at hf'
    refine qh2 (own':=none) (rl':=rl') (col':=col+1) (L:=rl'.reverse) ?_ rfl (fun u hu=>hk u (by simp [hu])) (by omega) (by have:=q07 t.d;omega) hf' (y9 t _)
    ·change Vw 0 _ _ ((base 36 76).on [(2,.int .i64 (col+1)),(3,.int .i64 w),(8,.bool false),(9,.ptr 0 0 0)]) (hp [.row 0 98 2 0 (some 1) [.agg [.nils,.osl 6 (rl'.map encT)]]])
     exact Vw.gk [(0,false)] [(0=0)] (.cons (by omega) .nil)
   refine Wc.w0 [(61,(.bool (decide (t.d.kind=3))))] ?_
   refine Wc.cq (p:=t.d.kind=3) (fun c8=>?_) (fun c8=>?_)
   ·refine Wc.seq (Wc.seq (Wc.w0 [(66,(.bool (!t.flat)))] ?_))
    refine Wc.cond (!t.flat) (by kernel_rfl) (by kernel_rfl) (fun c9=>?_) (fun c9=>?_)
    ·refine Wc.exit (z8.out rfl ?_)
     refine z8.out rfl ?_
     refine z8.here (Wc.seq (Wc.wn0 [(2,(.int .i64 (col))),(3,(.int .i64 (w))),(8,(.bool (decide (col≤w)))),(9,(.ptr 0 0 0)),(10,(.ptr 1 0 0)),(11,(.bool true)),(32,(.bool false)),(35,(.int .i64 (t.d.kind))),(44,(.bool (decide (t.d.kind=1)))),(59,(.bool (decide (t.d.kind=4)))),(61,(.bool (decide (t.d.kind=3)))),(66,(.bool (!t.flat)))] (hp [.row 0 98 2 0 (some 1) [(.agg [.nils,(.osl 6 (List.map encT rl'))])],.row 0 57 6 0 (some 1) [(encT t)]]) ?_))
     refine Wc.ret ?_
     refine retX.mk (.bool (decide (col≤w))) ⟨rfl,rfl⟩ (by kernel_rfl) ?_
     have hf':=hf
     rw [q08 hwle] at hf'
     have hsc:=j5 t rl'.reverse
     have htx:=y3 t.d
     rw [if_neg (by assumption),if_neg (by assumption),if_pos (.inr (by assumption)),if_neg (qz5 (by assumption))] at hf'
     rw [← hf',decide_eq_true hwle];rfl
    refine Wc.skip (Wc.seq (Wc.wn0 [(2,(.int .i64 (col))),(3,(.int .i64 (w))),(8,(.bool false)),(9,(.ptr 0 0 0)),(10,(.ptr 1 0 0)),(11,(.bool true)),(32,(.bool false)),(35,(.int .i64 (t.d.kind))),(44,(.bool (decide (t.d.kind=1)))),(59,(.bool (decide (t.d.kind=4)))),(61,(.bool (decide (t.d.kind=3)))),(66,(.bool (!t.flat))),(70,(.bool (decide (t.d.kind=2))))] (hp [.row 0 98 2 0 (some 1) [(.agg [.nils,(.osl 6 (List.map encT rl'))])],.row 0 57 6 0 (some 1) [(encT t)]]) ?_))
    refine Wc.cq (p:=t.d.kind=2) (fun c10=>absurd c10 (show ¬ (t.d.kind=2) from c4)) (fun c10=>?_)
    refine Wc.skip ?_
    have hf':=hf
    rw [q08 hwle] at hf'
    have hsc:=j5 t rl'.reverse
    have htx:=y3 t.d
    rw [if_neg (by assumption),if_neg (by assumption),if_pos (.inr (by assumption)),if_pos (z12 (by assumption)),if_neg (by assumption)] at hf'
    refine qh2 (own':=none) (rl':=rl') (col':=col) (L:=rl'.reverse) ?_ rfl (fun u hu=>hk u (by simp [hu])) (by omega) (by omega) hf' (y9 t _)
    ·change Vw 0 _ _ ((base 36 76).on [(2,.int .i64 (col)),(3,.int .i64 w),(8,.bool false),(9,.ptr 0 0 0)]) (hp [.row 0 98 2 0 (some 1) [.agg [.nils,.osl 6 (rl'.map encT)]]])
     exact Vw.gk [(0,false)] [(0=0)] (.cons (by omega) .nil)
   have hf':=hf
   rw [q08 hwle] at hf'
   have hsc:=j5 t rl'.reverse
   have htx:=y3 t.d
   rw [if_neg (by assumption),if_neg (by assumption),if_neg (by omega)] at hf'
   have hkb:=ql5 hot
   have hkc:=qc3 t.d
   have hsk:=q91 t t.flat
   have hkk:=z16 hot t.flat
   have hkt:∀ u,u∈z6 t t.flat++rl'.reverse→okT u:=fun u hu=>by
    rcases List.mem_append.1 hu with q | q
    ·exact hkk u q
    exact hk u (by simp [q])
   have hsum:=q57 (z6 t t.flat) rl'.reverse
   have hcl:=cKids (t:=t) (fl:=t.flat) (by have:=hot.2;omega) hkb
   rcases Nat.eq_zero_or_pos (z6 t t.flat).length with h0 | h0
   ·have h0:=List.eq_nil_of_length_eq_zero h0
    rw [h0] at hf' hkt hsum hcl
    have hrt:=q02 t t.flat rl'.reverse
    rw [h0] at hrt
    refine Wc.drawnS 34 [(.agg [(.int .i64 (t.d.kind)),(.str (t.d.text)),(.int .i64 (t.d.n)),(.osl 4 (esD t.d)),(.bool (t.flat)),(.int .i64 (t.n))]),(.bool (t.flat))] (.osl 6 []) (@hcl) 30 [(.ptr 0 0 0),(.osl 6 [])] (hp [.row 0 98 2 0 (some 1) [(.agg [.nils,(.osl 6 (List.map encT rl'))])],.row 0 57 6 0 (some 1) [(encT t)]]) (.tup []) (hp [.row 0 98 2 0 (some 1) [(.agg [.nils,(.osl 6 (List.map encT rl'))])],.row 0 57 6 0 (some 1) [(encT t)]]) (@Go.AM.cPushF2Z (V.osl 6 (List.map encT rl')) (Obj.row 0 57 6 0 (some 1) [encT t])) (by kernel_rfl) ?_
    refine Dl.b0 0 6 [(38,(.ptr 0 0 0)),(39,(.agg [(.int .i64 (t.d.kind)),(.str (t.d.text)),(.int .i64 (t.d.n)),(.osl 4 (esD t.d)),(.bool (t.flat)),(.int .i64 (t.n))])),(41,(.bool (t.flat)))] ?_
    refine Dl.c 6 [(42,(.osl 6 []))] q97 (by rfl) ?_
    refine Dl.callS (b:=(base 36 76)) (h1:=(hp [.row 0 98 2 0 (some 1) [(.agg [.nils,(.osl 6 (List.map encT rl'))])],.row 0 57 6 0 (some 1) [(encT t)]])) (h2:=(hp [.row 0 98 2 0 (some 1) [(.agg [.nils,(.osl 6 (List.map encT rl'))])],.row 0 57 6 0 (some 1) [(encT t)]])) (f:=30) (args:=[(.ptr 0 0 0),(.osl 6 [])]) (v:=(.tup [])) (d:=(some 43)) 7 [2,3,8,9,10,11,32,35,44,59,61] [(2,(.int .i64 (col))),(3,(.int .i64 (w))),(8,(.bool false)),(9,(.ptr 0 0 0)),(10,(.ptr 1 0 0)),(11,(.bool true)),(32,(.bool false)),(35,(.int .i64 (t.d.kind))),(44,(.bool (decide (t.d.kind=1)))),(59,(.bool (decide (t.d.kind=4)))),(61,(.bool (decide (t.d.kind=3))))] (by kernel_rfl) (by kernel_rfl) (by kernel_rfl) (by kernel_rfl) zd4 (by kernel_rfl) ?_
    refine Dl.done 8 rfl ?_
    have hz:=q93
    refine qh2 (own':=none) (rl':=rl') (col':=col) (L:=[]++rl'.reverse) ?_ rfl hkt (by omega) (by omega) hf' hrt
    ·change Vw 0 _ _ ((base 36 76).on [(2,.int .i64 (col)),(3,.int .i64 w),(8,.bool false),(9,.ptr 0 0 0)]) (hp [.row 0 98 2 0 (some 1) [.agg [.nils,.osl 6 (rl'.map encT)]]])
     exact Vw.gk [(0,false)] [(0=0)] (.cons (by omega) .nil)
   obtain ⟨j,hj⟩:∃ j,(z6 t t.flat).length=j+1:=⟨(z6 t t.flat).length-1,by omega⟩
   have hrt:=q02 t t.flat rl'.reverse
   have hps:=fun (mo:V) (o1:Obj)=>xr3 (mo:=mo) (o1:=o1) hj (by rw [qb3];have:=hot.2;omega)
   generalize hks:z6 t t.flat=ks' at *
   refine Wc.drawnS 34 [(.agg [(.int .i64 (t.d.kind)),(.str (t.d.text)),(.int .i64 (t.d.n)),(.osl 4 (esD t.d)),(.bool (t.flat)),(.int .i64 (t.n))]),(.bool (t.flat))] (.osl 6 (List.map encT ks')) (@hcl) 30 [(.ptr 0 0 0),(.osl 6 (List.map encT ks'))] (hp [.row 0 98 2 0 (some 1) [(.agg [.nils,(.osl 6 (List.map encT rl'))])],.row 0 57 6 0 (some 1) [(encT t)]]) (.tup []) (hp [.row 0 98 2 0 (some 1) [(.agg [(.sl 2 (j) 0 (j+1) none),(.osl 6 (List.map encT rl'))])],.row 0 57 6 0 (some 1) [(encT t)],.row (j) 57 6 0 none (List.map encT (List.reverse ks'))]) (@hps (V.osl 6 (List.map encT rl')) (Obj.row 0 57 6 0 (some 1) [encT t])) (by kernel_rfl) ?_
   refine Dl.bn0 0 6 [(2,(.int .i64 (col))),(3,(.int .i64 (w))),(8,(.bool false)),(9,(.ptr 0 0 0)),(10,(.ptr 1 0 0)),(11,(.bool true)),(32,(.bool false)),(35,(.int .i64 (t.d.kind))),(38,(.ptr 0 0 0)),(39,(.agg [(.int .i64 (t.d.kind)),(.str (t.d.text)),(.int .i64 (t.d.n)),(.osl 4 (esD t.d)),(.bool (t.flat)),(.int .i64 (t.n))])),(41,(.bool (t.flat))),(44,(.bool (decide (t.d.kind=1)))),(59,(.bool (decide (t.d.kind=4)))),(61,(.bool (decide (t.d.kind=3))))] (hp [.row 0 98 2 0 (some 1) [(.agg [.nils,(.osl 6 (List.map encT rl'))])],.row 0 57 6 0 (some 1) [(encT t)]]) ?_
   refine Dl.c 6 [(42,(.osl 6 (List.map encT ks')))] q97 (by rfl) ?_
   refine Dl.callS (b:=(base 36 76)) (h1:=(hp [.row 0 98 2 0 (some 1) [(.agg [.nils,(.osl 6 (List.map encT rl'))])],.row 0 57 6 0 (some 1) [(encT t)]])) (h2:=(hp [.row 0 98 2 0 (some 1) [(.agg [(.sl 2 (j) 0 (j+1) none),(.osl 6 (List.map encT rl'))])],.row 0 57 6 0 (some 1) [(encT t)],.row (j) 57 6 0 none (List.map encT (List.reverse ks'))])) (f:=30) (args:=[(.ptr 0 0 0),(.osl 6 (List.map encT ks'))]) (v:=(.tup [])) (d:=(some 43)) 7 [2,3,8,9,10,11,32,35,44,59,61] [(2,(.int .i64 (col))),(3,(.int .i64 (w))),(8,(.bool false)),(9,(.ptr 0 0 0)),(10,(.ptr 1 0 0)),(11,(.bool true)),(32,(.bool false)),(35,(.int .i64 (t.d.kind))),(44,(.bool (decide (t.d.kind=1)))),(59,(.bool (decide (t.d.kind=4)))),(61,(.bool (decide (t.d.kind=3))))] (by kernel_rfl) (by kernel_rfl) (by kernel_rfl) (by kernel_rfl) zd4 (by kernel_rfl) ?_
   refine Dl.done 8 rfl ?_
   refine qh2 (own':=some ks'.reverse) (rl':=rl') (col':=col) (L:=ks'++rl'.reverse) ?_ (by simp [ownL]) hkt (by omega) (by omega) hf' hrt
   ·change Vw 0 _ _ ((base 36 76).on [(2,.int .i64 col),(3,.int .i64 w),(8,.bool false),(9,.ptr 0 0 0)]) (hp [.row 0 98 2 0 (some 1) [.agg [.sl 1 0 0 ks'.reverse.length none,.osl 6 (rl'.map encT)]],.row 0 57 6 0 none (ks'.reverse.map encT)])
    rw [List.length_reverse,hj]
    exact Vw.gk [(0,false),(2,true)] [(j=j),(∀ (e:V),e∈List.map encT (List.reverse ks')→x2 (x4 3) (V.cells e)=true),(0=0)] (.cons (by omega) (.cons (by exact x3 (fun _=>rfl) _) (.cons (by omega) .nil)))
  have hcase:(l=[]∧rl=[])∨∃ l' rl' t,(l=l'++[t]∧rl=rl')∨(l=[]∧l'=[]∧rl=rl'++[t]):=by
   rcases List.eq_nil_or_concat l with h0 | ⟨l',t,h0⟩
   ·rcases List.eq_nil_or_concat rl with h1 | ⟨rl',t,h1⟩
    ·exact .inl ⟨h0,h1⟩
    exact .inr ⟨[],rl',t,.inr ⟨h0,rfl,by rw [h1];simp⟩⟩
   exact .inr ⟨l',rl,t,.inl ⟨by rw [h0];simp,rfl⟩⟩
  rcases hcase with ⟨h0,h1⟩ | ⟨l',rl',t,hcase⟩
  ·subst h0 h1
   have hRt:R=true:=by rw [← hf];exact zv1 hwle
   change Wc Tryd.prog EU _ _ (hp [.row 0 98 2 0 (some 1) [.agg [.sl 1 0 0 0 none,.osl 6 []]],.row 0 57 6 0 none []]) _ _ _
   refine Wc.enter (Wl.bn0 0 1 [(2,(.int .i64 (col))),(3,(.int .i64 (w))),(8,(.bool false)),(9,(.ptr 0 0 0)),(25,(.bool (decide (col≤w)))),(27,(.ptr 0 0 0))] (hp [.row 0 98 2 0 (some 1) [(.agg [(.sl 1 0 0 0 none),(.osl 6 [])])],.row 0 57 6 0 none []]) ?_)
   refine Wl.s 1 [(28,(.tup [(.agg [(.int .i64 0),(.str []),(.int .i64 0),.nils,(.bool false),(.int .i64 0)]),(.bool false)]))] (@Go.AM.cNextB3 ([])) ?_
   refine Wl.bn0 2 8 [(10,(.ptr 5 0 0)),(11,(.bool false))] (hp [.row 0 98 2 0 (some 1) [(.agg [(.sl 1 0 0 0 none),(.osl 6 [])])],.row 0 57 6 0 none [],.row 0 57 6 0 (some 1) [(.agg [(.int .i64 0),(.str []),(.int .i64 0),.nils,(.bool false),(.int .i64 0)])],.row 0 57 6 0 (some 1) [(.agg [(.int .i64 0),(.str []),(.int .i64 0),.nils,(.bool false),(.int .i64 0)])],.row 0 57 6 0 (some 1) [(.agg [(.int .i64 0),(.str []),(.int .i64 0),.nils,(.bool false),(.int .i64 0)])],.row 0 57 6 0 (some 1) [(.agg [(.int .i64 0),(.str []),(.int .i64 0),.nils,(.bool false),(.int .i64 0)])]]) ?_
   refine Wl.dn 8 (Wc.seq (Wc.seq (Wc.w0 [(32,(.bool true))] ?_)))
   refine Wc.ct (Wc.exit (z8.out rfl ?_))
   refine z8.here (Wc.seq (Wc.wn0 [(2,(.int .i64 (col))),(3,(.int .i64 (w))),(8,(.bool (decide (col≤w)))),(9,(.ptr 0 0 0)),(10,(.ptr 5 0 0)),(11,(.bool false)),(25,(.bool (decide (col≤w)))),(32,(.bool true))] (hp [.row 0 98 2 0 (some 1) [(.agg [(.sl 1 0 0 0 none),(.osl 6 [])])],.row 0 57 6 0 none [],.row 0 57 6 0 (some 1) [(.agg [(.int .i64 0),(.str []),(.int .i64 0),.nils,(.bool false),(.int .i64 0)])],.row 0 57 6 0 (some 1) [(.agg [(.int .i64 0),(.str []),(.int .i64 0),.nils,(.bool false),(.int .i64 0)])],.row 0 57 6 0 (some 1) [(.agg [(.int .i64 0),(.str []),(.int .i64 0),.nils,(.bool false),(.int .i64 0)])],.row 0 57 6 0 (some 1) [(.agg [(.int .i64 0),(.str []),(.int .i64 0),.nils,(.bool false),(.int .i64 0)])]]) ?_))
   refine Wc.ret ?_
   refine retX.mk (.bool (decide (col≤w))) ⟨rfl,rfl⟩ (by kernel_rfl) ?_
   rw [hRt,decide_eq_true hwle];rfl
  have hL:ownL (some l)++rl.reverse=t::(l'.reverse++rl'.reverse):=by
   rcases hcase with ⟨h0,h1⟩ | ⟨h0,h1,h2⟩
   ·rw [h0,h1];simp [ownL]
   rw [h0,h1,h2];simp [ownL]
  rw [hL] at hk hs hc hf ⊢
  have hot:=hk t (by simp)
  have hlen:=qe6 (t::(l'.reverse++rl'.reverse))
  rw [List.length_cons,List.length_append,List.length_reverse,List.length_reverse] at hlen
  refine Wc.mid ((base 36 76).on [(2,.int .i64 col),(3,.int .i64 w),(8,.bool false),(9,.ptr 0 0 0),(10,.ptr 2 0 0),(11,.bool true)]) (hp [.row 0 98 2 0 (some 1) [.agg [.sl 1 0 0 l'.length none,.osl 6 (rl'.map encT)]],.row 0 57 6 0 none (l'.map encT),.row 0 57 6 0 (some 1) [encT t]]) ?_ ?_
  ·rcases hcase with ⟨h0,h1⟩ | ⟨h0,h1,h2⟩
   ·subst h0 h1
    change Wc Tryd.prog EU _ _ (hp [.row 0 98 2 0 (some 1) [.agg [.sl 1 0 0 (l'++[t]).length none,.osl 6 (rl.map encT)]],.row 0 57 6 0 none ((l'++[t]).map encT)]) _ _ _
    rw [show (l'++[t]).length=l'.length+1 by simp]
    have hnx:=@cNextB1 (.osl 6 (rl.map encT)) l' (l'.length+1) t rfl (by omega)
    refine Wc.enter (Wl.bn0 0 1 [(2,(.int .i64 (col))),(3,(.int .i64 (w))),(8,(.bool false)),(9,(.ptr 0 0 0)),(25,(.bool (decide (col≤w)))),(27,(.ptr 0 0 0))] (hp [.row 0 98 2 0 (some 1) [(.agg [(.sl 1 0 0 (List.length l'+1) none),(.osl 6 (List.map encT rl))])],.row 0 57 6 0 none (List.map encT (l'++[t]))]) ?_)
    refine Wl.s 1 [(28,(.tup [(encT t),(.bool true)]))] (@Go.AM.cNextB1 (V.osl 6 (List.map encT rl)) (l') (List.length l'+1) (t) (by omega) (by omega)) ?_
    refine Wl.bn0 2 8 [(10,(.ptr 5 0 0)),(11,(.bool true))] (hp [.row 0 98 2 0 (some 1) [(.agg [(.sl 1 0 0 (List.length l') none),(.osl 6 (List.map encT rl))])],.row 0 57 6 0 none (List.map encT (l'++[t])),.row 0 57 6 0 (some 1) [(encT t)],.row 0 57 6 0 (some 1) [(encT t)],.row 0 57 6 0 (some 1) [(encT t)],.row 0 57 6 0 (some 1) [(.agg [(.int .i64 (t.d.kind)),(.str (t.d.text)),(.int .i64 (t.d.n)),(.osl 4 (esD t.d)),(.bool (t.flat)),(.int .i64 (t.n))])]]) ?_
    refine Wl.dn 8 ?_
    refine Vw.trans (Vw.gc (b:=(base 36 76)) [(0,false),(1,true),(5,false)] [2,3,8,9,10,11] [(2,(.int .i64 (col))),(3,(.int .i64 (w))),(8,(.bool false)),(9,(.ptr 0 0 0)),(10,(.ptr 5 0 0)),(11,(.bool true))] [(2,(.int .i64 (col))),(3,(.int .i64 (w))),(8,(.bool false)),(9,(.ptr 0 0 0)),(10,(.ptr 2 0 0)),(11,(.bool true))] [.row 0 98 2 0 (some 1) [(.agg [(.sl 1 0 0 (List.length l') none),(.osl 6 (List.map encT rl))])],.row 0 57 6 0 none (List.map encT (l'++[t])),.row 0 57 6 0 (some 1) [(.agg [(.int .i64 (t.d.kind)),(.str (t.d.text)),(.int .i64 (t.d.n)),(.osl 4 (esD t.d)),(.bool (t.flat)),(.int .i64 (t.n))])]] ⟨rfl,rfl,rfl⟩ (by kernel_rfl) (by kernel_rfl) (by kernel_rfl) (by kernel_rfl) [((0:Nat)=0),(∀ (e:V),e∈List.map encT (l'++[t])→x2 (x4 (3:Nat)) (V.cells e)=true),((0:Nat)=0),((0:Nat)=0)] (by kernel_rfl) (.cons (by omega) (.cons (by exact x3 (fun _=>rfl) _) (.cons (by omega) (.cons (by omega) .nil))))) ?_
    have hv:Vw 0 ((base 36 76).on [(2,.int .i64 col),(3,.int .i64 w),(8,.bool false),(9,.ptr 0 0 0),(10,.ptr 2 0 0),(11,.bool true)]) (hp [.row 0 98 2 0 (some 1) [.agg [.sl 1 0 0 l'.length none,.osl 6 (rl.map encT)]],.row 0 57 6 0 none ((l'++[t]).map encT),.row 0 57 6 0 (some 1) [encT t]]) _ _:=Vw.row (ver:=0) (ty:=57) (sz:=6) (pub:=0) (cap:=none) (es:=(l'++[t]).map encT) 1 (l'.map encT) (by kernel_rfl) (Nat.zero_le _) (by simp) (by rw [List.map_append];exact zm2 z36)
    exact Vw.trans hv (Vw.eq rfl (by kernel_rfl))
   subst h0 h1 h2
   change Wc Tryd.prog EU _ _ (hp [.row 0 98 2 0 (some 1) [.agg [.sl 1 0 0 0 none,.osl 6 ((rl'++[t]).map encT)]],.row 0 57 6 0 none []]) _ _ _
   have hnx:=@xz2 [] rl' (rl'.length+1) t rfl (by simp only [List.length_nil] at hlen;omega)
   refine Wc.enter (Wl.bn0 0 1 [(2,(.int .i64 (col))),(3,(.int .i64 (w))),(8,(.bool false)),(9,(.ptr 0 0 0)),(25,(.bool (decide (col≤w)))),(27,(.ptr 0 0 0))] (hp [.row 0 98 2 0 (some 1) [(.agg [(.sl 1 0 0 0 none),(.osl 6 (List.map encT (rl'++[t])))])],.row 0 57 6 0 none []]) ?_)
   refine Wl.s 1 [(28,(.tup [(encT t),(.bool true)]))] hnx ?_
   refine Wl.bn0 2 8 [(10,(.ptr 6 0 0)),(11,(.bool true))] (hp [.row 0 98 2 0 (some 1) [(.agg [(.sl 1 0 0 0 none),(.osl 6 (List.map encT rl'))])],.row 0 57 6 0 none [],.row 0 57 6 0 (some 1) [(encT t)],.row 0 57 6 0 (some 1) [(.agg [(.int .i64 0),(.str []),(.int .i64 0),.nils,(.bool false),(.int .i64 0)])],.row 0 57 6 0 (some 1) [(.agg [(.int .i64 0),(.str []),(.int .i64 0),.nils,(.bool false),(.int .i64 0)])],.row 0 57 6 0 (some 1) [(encT t)],.row 0 57 6 0 (some 1) [(.agg [(.int .i64 (t.d.kind)),(.str (t.d.text)),(.int .i64 (t.d.n)),(.osl 4 (esD t.d)),(.bool (t.flat)),(.int .i64 (t.n))])]]) ?_
   refine Wl.dn 8 ?_
   exact Vw.gk [(0,false),(1,false),(6,false)] [(0=0),(0=0),(0=0)] (.cons (by omega) (.cons (by omega) (.cons (by omega) .nil)))
  refine Wc.seq (Wc.seq (Wc.wn0 [(2,(.int .i64 (col))),(3,(.int .i64 (w))),(8,(.bool false)),(9,(.ptr 0 0 0)),(10,(.ptr 2 0 0)),(11,(.bool true)),(32,(.bool false))] (hp [.row 0 98 2 0 (some 1) [(.agg [(.sl 1 0 0 (List.length l') none),(.osl 6 (List.map encT rl'))])],.row 0 57 6 0 none (List.map encT l'),.row 0 57 6 0 (some 1) [(encT t)]]) ?_))
  refine Wc.cf (Wc.skip (Wc.seq (Wc.w0 [(35,(.int .i64 (t.d.kind)))] ?_)))
  refine Wc.block (Wc.seq (Wc.w0 [(44,(.bool (decide (t.d.kind=1))))] ?_))
  refine Wc.cq (p:=t.d.kind=1) (fun c2=>?_) (fun c2=>?_)
  ·refine Wc.seq (Wc.enter (Wl.b0 0 3 [(49,(.str (t.d.text)))] ?_))
   have hf':=hf
   rw [q08 hwle] at hf'
   have hsc:=j5 t (l'.reverse++rl'.reverse)
   have htx:=y3 t.d
   have hw1:=q15 t.d.text
   rw [if_pos (by assumption)] at hf'
   by_cases hfd:(10:UInt8)∈t.d.text
   ·obtain ⟨x,y,h1,h2,h3⟩:=z05 hfd
    rw [(q46 _).2 hfd,if_pos rfl,h3] at hf'
    have hxl:x.length+y.length+1=t.d.text.length:=by rw [h1];simp;omega
    have hw2:=q15 x
    have hcx:=cCutF (b:=y) h2 (by have:=hot.2;omega)
    simp only [h1]
    refine Wl.c 3 [(2,(.int .i64 (col))),(3,(.int .i64 (w))),(8,(.bool false)),(9,(.ptr 0 0 0)),(10,(.ptr 2 0 0)),(11,(.bool true)),(32,(.bool false)),(35,(.int .i64 (t.d.kind))),(44,(.bool (decide (t.d.kind=1)))),(50,(.tup [(.str x),(.str y),(.bool true)]))] (@Go.AM.cCutF (x) (y) h2 (by omega)) ?_
    refine Wl.b0 4 11 [(12,(.str x)),(14,(.bool true))] ?_
    refine Wl.dn 11 (Wc.seq (Wc.enter (Wl.b0 0 2 [(54,(.int .i64 (col))),(55,(.str x))] ?_)))
    refine Wl.c 2 [(56,(.int .i64 ((wide x:Int))))] (@Go.AM.c16 (x) (by omega)) ?_
    refine Wl.bs 3 5 [(2,(.int .i64 (col+(wide x:Int))))] [(i64r (col+(wide x:Int)))] (.cons (by omega) .nil) ?_
    refine Wl.dn 5 (Wc.seq (Wc.w0 [(58,(.bool true))] ?_))
    refine Wc.ct (Wc.exit (z8.out rfl ?_))
    refine z8.out rfl ?_
    refine z8.here (Wc.seq (Wc.wn0 [(2,(.int .i64 (col+(wide x:Int)))),(3,(.int .i64 (w))),(8,(.bool (decide (col+(wide x:Int)≤w)))),(9,(.ptr 0 0 0)),(10,(.ptr 2 0 0)),(11,(.bool true)),(12,(.str x)),(14,(.bool true)),(32,(.bool false)),(35,(.int .i64 (t.d.kind))),(44,(.bool (decide (t.d.kind=1)))),(58,(.bool true))] (hp [.row 0 98 2 0 (some 1) [(.agg [(.sl 1 0 0 (List.length l') none),(.osl 6 (List.map encT rl'))])],.row 0 57 6 0 none (List.map encT l'),.row 0 57 6 0 (some 1) [(encT t)]]) ?_))
    refine Wc.ret ?_
    refine retX.mk (.bool (decide (col+(wide x:Int)≤w))) ⟨rfl,rfl⟩ (by kernel_rfl) ?_
    rw [← hf'];rfl
   have h0:q65 t.d.text=false:=by rw [Bool.eq_false_iff];exact fun q=>hfd ((q46 _).1 q)
   rw [h0,if_neg (by decide)] at hf'
   refine Wl.c 3 [(50,(.tup [(.str (t.d.text)),(.str []),(.bool false)]))] (@Go.AM.cCutN (t.d.text) hfd) ?_
   refine Wl.b0 4 11 [(12,(.str (t.d.text))),(14,(.bool false))] ?_
   refine Wl.dn 11 (Wc.seq (Wc.enter (Wl.b0 0 2 [(54,(.int .i64 (col))),(55,(.str (t.d.text)))] ?_)))
   refine Wl.c 2 [(56,(.int .i64 ((wide t.d.text:Int))))] (@Go.AM.c16 (t.d.text) (by omega)) ?_
   refine Wl.bs 3 5 [(2,(.int .i64 (col+(wide t.d.text:Int))))] [(i64r (col+(wide t.d.text:Int)))] (.cons (by omega) .nil) ?_
   refine Wl.dn 5 (Wc.seq (Wc.w0 [(58,(.bool false))] ?_))
   refine Wc.cf (Wc.skip ?_)
   refine qh2 (own':=some l') (rl':=rl') (col':=col+(wide t.d.text:Int)) (L:=(l'.reverse++rl'.reverse)) ?_ rfl (fun u hu=>hk u (List.mem_cons_of_mem _ hu)) (by omega) (by omega) hf' (y9 t _)
   ·change Vw 0 _ _ ((base 36 76).on [(2,.int .i64 (col+(wide t.d.text:Int))),(3,.int .i64 w),(8,.bool false),(9,.ptr 0 0 0)]) (hp [.row 0 98 2 0 (some 1) [.agg [.sl 1 0 0 l'.length none,.osl 6 (rl'.map encT)]],.row 0 57 6 0 none (l'.map encT)])
    exact Vw.gk [(0,false),(1,true)] [(0=0),(∀ (e:V),e∈List.map encT l'→x2 (x4 3) (V.cells e)=true),(0=0)] (.cons (by omega) (.cons (by exact x3 (fun _=>rfl) _) (.cons (by omega) .nil)))
  refine Wc.seq (Wc.w0 [(59,(.bool (decide (t.d.kind=4))))] ?_)
  refine Wc.cq (p:=t.d.kind=4) (fun c3=>?_) (fun c3=>?_)
  ·refine Wc.exit (z8.out rfl ?_)
   refine z8.out rfl ?_
   refine z8.here (Wc.seq (Wc.wn0 [(2,(.int .i64 (col))),(3,(.int .i64 (w))),(8,(.bool (decide (col≤w)))),(9,(.ptr 0 0 0)),(10,(.ptr 2 0 0)),(11,(.bool true)),(32,(.bool false)),(35,(.int .i64 (t.d.kind))),(44,(.bool (decide (t.d.kind=1)))),(59,(.bool (decide (t.d.kind=4))))] (hp [.row 0 98 2 0 (some 1) [(.agg [(.sl 1 0 0 (List.length l') none),(.osl 6 (List.map encT rl'))])],.row 0 57 6 0 none (List.map encT l'),.row 0 57 6 0 (some 1) [(encT t)]]) ?_))
   refine Wc.ret ?_
   refine retX.mk (.bool (decide (col≤w))) ⟨rfl,rfl⟩ (by kernel_rfl) ?_
   have hf':=hf
   rw [q08 hwle] at hf'
   have hsc:=j5 t (l'.reverse++rl'.reverse)
   have htx:=y3 t.d
   rw [if_neg (by assumption),if_pos (by assumption)] at hf'
   rw [← hf',decide_eq_true hwle];rfl
  refine Wc.seq (Wc.seq (Wc.w0 [(61,(.bool (decide (t.d.kind=2))))] ?_))
  refine Wc.cq (p:=t.d.kind=2) (fun c4=>?_) (fun c4=>?_)
  ·refine Wc.skip ?_
   refine Wc.cq (p:=t.d.kind=2) (fun c5=>?_) (fun c5=>absurd (show t.d.kind=2 from c4) c5)
   refine Wc.seq (Wc.seq (Wc.w0 [(66,(.bool (!t.flat)))] ?_))
   refine Wc.cond (!t.flat) (by kernel_rfl) (by kernel_rfl) (fun c6=>?_) (fun c6=>?_)
   ·refine Wc.exit (z8.out rfl ?_)
    refine z8.out rfl ?_
    refine z8.here (Wc.seq (Wc.wn0 [(2,(.int .i64 (col))),(3,(.int .i64 (w))),(8,(.bool (decide (col≤w)))),(9,(.ptr 0 0 0)),(10,(.ptr 2 0 0)),(11,(.bool true)),(32,(.bool false)),(35,(.int .i64 (t.d.kind))),(44,(.bool (decide (t.d.kind=1)))),(59,(.bool (decide (t.d.kind=4)))),(61,(.bool (decide (t.d.kind=2)))),(66,(.bool (!t.flat)))] (hp [.row 0 98 2 0 (some 1) [(.agg [(.sl 1 0 0 (List.length l') none),(.osl 6 (List.map encT rl'))])],.row 0 57 6 0 none (List.map encT l'),.row 0 57 6 0 (some 1) [(encT t)]]) ?_))
    refine Wc.ret ?_
    refine retX.mk (.bool (decide (col≤w))) ⟨rfl,rfl⟩ (by kernel_rfl) ?_
    have hf':=hf
    rw [q08 hwle] at hf'
    have hsc:=j5 t (l'.reverse++rl'.reverse)
    have htx:=y3 t.d
    rw [if_neg (by assumption),if_neg (by assumption),if_pos (.inl (by assumption)),if_neg (qz5 (by assumption))] at hf'
    rw [← hf',decide_eq_true hwle];rfl
   refine Wc.skip (Wc.seq (Wc.wn0 [(2,(.int .i64 (col))),(3,(.int .i64 (w))),(8,(.bool false)),(9,(.ptr 0 0 0)),(10,(.ptr 2 0 0)),(11,(.bool true)),(32,(.bool false)),(35,(.int .i64 (t.d.kind))),(44,(.bool (decide (t.d.kind=1)))),(59,(.bool (decide (t.d.kind=4)))),(61,(.bool (decide (t.d.kind=2)))),(66,(.bool (!t.flat))),(70,(.bool (decide (t.d.kind=2))))] (hp [.row 0 98 2 0 (some 1) [(.agg [(.sl 1 0 0 (List.length l') none),(.osl 6 (List.map encT rl'))])],.row 0 57 6 0 none (List.map encT l'),.row 0 57 6 0 (some 1) [(encT t)]]) ?_))
   refine Wc.cq (p:=t.d.kind=2) (fun c7=>?_) (fun c7=>absurd (show t.d.kind=2 from c4) c7)
   refine Wc.w [(2,(.int .i64 (col+1)))] [(i64r (col+1))] (.cons (by omega) .nil) ?_
   have hf':=hf
   rw [q08 hwle] at hf'
   have hsc:=j5 t (l'.reverse++rl'.reverse)
   have htx:=y3 t.d
   rw [if_neg (by assumption),if_neg (by assumption),if_pos (.inl (by assumption)),if_pos (z12 (by assumption)),if_pos (by assumption)] at hf'
   refine qh2 (own':=some l') (rl':=rl') (col':=col+1) (L:=(l'.reverse++rl'.reverse)) ?_ rfl (fun u hu=>hk u (List.mem_cons_of_mem _ hu)) (by omega) (by have:=q07 t.d;omega) hf' (y9 t _)
   ·change Vw 0 _ _ ((base 36 76).on [(2,.int .i64 (col+1)),(3,.int .i64 w),(8,.bool false),(9,.ptr 0 0 0)]) (hp [.row 0 98 2 0 (some 1) [.agg [.sl 1 0 0 l'.length none,.osl 6 (rl'.map encT)]],.row 0 57 6 0 none (l'.map encT)])
    exact Vw.gk [(0,false),(1,true)] [(0=0),(∀ (e:V),e∈List.map encT l'→x2 (x4 3) (V.cells e)=true),(0=0)] (.cons (by omega) (.cons (by exact x3 (fun _=>rfl) _) (.cons (by omega) .nil)))
  refine Wc.w0 [(61,(.bool (decide (t.d.kind=3))))] ?_
  refine Wc.cq (p:=t.d.kind=3) (fun c8=>?_) (fun c8=>?_)
  ·refine Wc.seq (Wc.seq (Wc.w0 [(66,(.bool (!t.flat)))] ?_))
   refine Wc.cond (!t.flat) (by kernel_rfl) (by kernel_rfl) (fun c9=>?_) (fun c9=>?_)
   ·refine Wc.exit (z8.out rfl ?_)
    refine z8.out rfl ?_
    refine z8.here (Wc.seq (Wc.wn0 [(2,(.int .i64 (col))),(3,(.int .i64 (w))),(8,(.bool (decide (col≤w)))),(9,(.ptr 0 0 0)),(10,(.ptr 2 0 0)),(11,(.bool true)),(32,(.bool false)),(35,(.int .i64 (t.d.kind))),(44,(.bool (decide (t.d.kind=1)))),(59,(.bool (decide (t.d.kind=4)))),(61,(.bool (decide (t.d.kind=3)))),(66,(.bool (!t.flat)))] (hp [.row 0 98 2 0 (some 1) [(.agg [(.sl 1 0 0 (List.length l') none),(.osl 6 (List.map encT rl'))])],.row 0 57 6 0 none (List.map encT l'),.row 0 57 6 0 (some 1) [(encT t)]]) ?_))
    refine Wc.ret ?_
    refine retX.mk (.bool (decide (col≤w))) ⟨rfl,rfl⟩ (by kernel_rfl) ?_
    have hf':=hf
    rw [q08 hwle] at hf'
    have hsc:=j5 t (l'.reverse++rl'.reverse)
    have htx:=y3 t.d
    rw [if_neg (by assumption),if_neg (by assumption),if_pos (.inr (by assumption)),if_neg (qz5 (by assumption))] at hf'
    rw [← hf',decide_eq_true hwle];rfl
   refine Wc.skip (Wc.seq (Wc.wn0 [(2,(.int .i64 (col))),(3,(.int .i64 (w))),(8,(.bool false)),(9,(.ptr 0 0 0)),(10,(.ptr 2 0 0)),(11,(.bool true)),(32,(.bool false)),(35,(.int .i64 (t.d.kind))),(44,(.bool (decide (t.d.kind=1)))),(59,(.bool (decide (t.d.kind=4)))),(61,(.bool (decide (t.d.kind=3)))),(66,(.bool (!t.flat))),(70,(.bool (decide (t.d.kind=2))))] (hp [.row 0 98 2 0 (some 1) [(.agg [(.sl 1 0 0 (List.length l') none),(.osl 6 (List.map encT rl'))])],.row 0 57 6 0 none (List.map encT l'),.row 0 57 6 0 (some 1) [(encT t)]]) ?_))
   refine Wc.cq (p:=t.d.kind=2) (fun c10=>absurd c10 (show ¬ (t.d.kind=2) from c4)) (fun c10=>?_)
   refine Wc.skip ?_
   have hf':=hf
   rw [q08 hwle] at hf'
   have hsc:=j5 t (l'.reverse++rl'.reverse)
   have htx:=y3 t.d
   rw [if_neg (by assumption),if_neg (by assumption),if_pos (.inr (by assumption)),if_pos (z12 (by assumption)),if_neg (by assumption)] at hf'
   refine qh2 (own':=some l') (rl':=rl') (col':=col) (L:=(l'.reverse++rl'.reverse)) ?_ rfl (fun u hu=>hk u (List.mem_cons_of_mem _ hu)) (by omega) (by have:=q07 t.d;omega) hf' (y9 t _)
   ·change Vw 0 _ _ ((base 36 76).on [(2,.int .i64 (col)),(3,.int .i64 w),(8,.bool false),(9,.ptr 0 0 0)]) (hp [.row 0 98 2 0 (some 1) [.agg [.sl 1 0 0 l'.length none,.osl 6 (rl'.map encT)]],.row 0 57 6 0 none (l'.map encT)])
    exact Vw.gk [(0,false),(1,true)] [(0=0),(∀ (e:V),e∈List.map encT l'→x2 (x4 3) (V.cells e)=true),(0=0)] (.cons (by omega) (.cons (by exact x3 (fun _=>rfl) _) (.cons (by omega) .nil)))
  have hf':=hf
  rw [q08 hwle] at hf'
  have hsc:=j5 t (l'.reverse++rl'.reverse)
  have htx:=y3 t.d
  rw [if_neg (by assumption),if_neg (by assumption),if_neg (by omega)] at hf'
  have hkb:=ql5 hot
  have hkc:=qc3 t.d
  have hsk:=q91 t t.flat
  have hkk:=z16 hot t.flat
  have hkt:∀ u,u∈z6 t t.flat++(l'.reverse++rl'.reverse)→okT u:=fun u hu=>by
   rcases List.mem_append.1 hu with q | q
   ·exact hkk u q
   exact hk u (List.mem_cons_of_mem _ q)
  have hsum:=q57 (z6 t t.flat) (l'.reverse++rl'.reverse)
  have hcl:=cKids (t:=t) (fl:=t.flat) (by have:=hot.2;omega) hkb
  have hrt:=q02 t t.flat (l'.reverse++rl'.reverse)
  have hkn:(z6 t t.flat).length≤100000:=by rw [qb3];have:=hot.2;omega
  generalize hks:z6 t t.flat=ks' at *
  refine Wc.drawnS 34 [(.agg [(.int .i64 (t.d.kind)),(.str (t.d.text)),(.int .i64 (t.d.n)),(.osl 4 (esD t.d)),(.bool (t.flat)),(.int .i64 (t.n))]),(.bool (t.flat))] (.osl 6 (List.map encT ks')) (@hcl) 30 [(.ptr 0 0 0),(.osl 6 (List.map encT ks'))] (hp [.row 0 98 2 0 (some 1) [(.agg [(.sl 1 0 0 (List.length l') none),(.osl 6 (List.map encT rl'))])],.row 0 57 6 0 none (List.map encT l'),.row 0 57 6 0 (some 1) [(encT t)]]) (.tup []) (hp [.row 0 98 2 0 (some 1) [(.agg [(.sl 1 (List.length ks') 0 (List.length l'+List.length ks') none),(.osl 6 (List.map encT rl'))])],.row (List.length ks') 57 6 0 none (List.map encT l'++List.map encT (List.reverse ks')),.row 0 57 6 0 (some 1) [(encT t)]]) (@Go.AM.cPushF3 (V.osl 6 (List.map encT rl')) (Obj.row 0 57 6 0 (some 1) [encT t]) (l') (List.length l') (ks') hkn (by omega) (by omega)) (by kernel_rfl) ?_
  refine Dl.bn0 0 6 [(2,(.int .i64 (col))),(3,(.int .i64 (w))),(8,(.bool false)),(9,(.ptr 0 0 0)),(10,(.ptr 2 0 0)),(11,(.bool true)),(32,(.bool false)),(35,(.int .i64 (t.d.kind))),(38,(.ptr 0 0 0)),(39,(.agg [(.int .i64 (t.d.kind)),(.str (t.d.text)),(.int .i64 (t.d.n)),(.osl 4 (esD t.d)),(.bool (t.flat)),(.int .i64 (t.n))])),(41,(.bool (t.flat))),(44,(.bool (decide (t.d.kind=1)))),(59,(.bool (decide (t.d.kind=4)))),(61,(.bool (decide (t.d.kind=3))))] (hp [.row 0 98 2 0 (some 1) [(.agg [(.sl 1 0 0 (List.length l') none),(.osl 6 (List.map encT rl'))])],.row 0 57 6 0 none (List.map encT l'),.row 0 57 6 0 (some 1) [(encT t)]]) ?_
  refine Dl.c 6 [(42,(.osl 6 (List.map encT ks')))] q97 (by rfl) ?_
  refine Dl.callS (b:=(base 36 76)) (h1:=(hp [.row 0 98 2 0 (some 1) [(.agg [(.sl 1 0 0 (List.length l') none),(.osl 6 (List.map encT rl'))])],.row 0 57 6 0 none (List.map encT l'),.row 0 57 6 0 (some 1) [(encT t)]])) (h2:=(hp [.row 0 98 2 0 (some 1) [(.agg [(.sl 1 (List.length ks') 0 (List.length l'+List.length ks') none),(.osl 6 (List.map encT rl'))])],.row (List.length ks') 57 6 0 none (List.map encT l'++List.map encT (List.reverse ks')),.row 0 57 6 0 (some 1) [(encT t)]])) (f:=30) (args:=[(.ptr 0 0 0),(.osl 6 (List.map encT ks'))]) (v:=(.tup [])) (d:=(some 43)) 7 [2,3,8,9,10,11,32,35,44,59,61] [(2,(.int .i64 (col))),(3,(.int .i64 (w))),(8,(.bool false)),(9,(.ptr 0 0 0)),(10,(.ptr 2 0 0)),(11,(.bool true)),(32,(.bool false)),(35,(.int .i64 (t.d.kind))),(44,(.bool (decide (t.d.kind=1)))),(59,(.bool (decide (t.d.kind=4)))),(61,(.bool (decide (t.d.kind=3))))] (by kernel_rfl) (by kernel_rfl) (by kernel_rfl) (by kernel_rfl) zd4 (by kernel_rfl) ?_
  refine Dl.done 8 rfl ?_
  refine qh2 (own':=some (l'++ks'.reverse)) (rl':=rl') (col':=col) (L:=ks'++(l'.reverse++rl'.reverse)) ?_ (by simp [ownL]) hkt (by omega) (by omega) hf' hrt
  ·change Vw 0 _ _ ((base 36 76).on [(2,.int .i64 col),(3,.int .i64 w),(8,.bool false),(9,.ptr 0 0 0)]) (hp [.row 0 98 2 0 (some 1) [.agg [.sl 1 0 0 (l'++ks'.reverse).length none,.osl 6 (rl'.map encT)]],.row 0 57 6 0 none ((l'++ks'.reverse).map encT)])
   rw [List.length_append,List.length_reverse,List.map_append]
   exact Vw.gk [(0,false),(1,true)] [(List.length ks'=List.length ks'),(∀ (e:V),e∈List.map encT l'++List.map encT (List.reverse ks')→x2 (x4 3) (V.cells e)=true),(0=0)] (.cons (by omega) (.cons (by exact w6 (x3 (fun _=>rfl) _) (x3 (fun _=>rfl) _)) (.cons (by omega) .nil)))
 refine Wc.exit (z8.here (Wc.seq (Wc.w0 [(8,(.bool (decide (col≤w))))] ?_)))
 refine Wc.ret ?_
 refine retX.mk (.bool (decide (col≤w))) ⟨rfl,rfl⟩ (by kernel_rfl) ?_
 have e:R=false:=by (rw [← hf];exact zn5 _ c1)
 rw [e,decide_eq_false c1];rfl
end Go.AM
