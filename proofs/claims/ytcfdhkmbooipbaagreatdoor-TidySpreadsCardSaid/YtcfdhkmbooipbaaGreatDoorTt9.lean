/-
  WHAT FUNCTIONS OF THE PROGRAM COME TO, told by the machine, and plain laws of it. No condition but what each theorem says of its arguments.
-/
import Derived.Test.YtcfdhkmbooipbaaGreatDoorTt8
namespace Go.AM
open Go.Proofs
set_option maxRecDepth 100000
set_option maxHeartbeats 4000000
theorem GI1 (s:List UInt8) (hs:s.length≤1000000000000):∀ (d:Nat) (n:Int),0≤n→n≤s.length→(s.length:Int)-n≤d→Ok1 (fun X=>X.J2 (.code (.loop (lpB PP 23 0)) ((base 23 30).on [(0,.str s),(3,.int .i64 n)]) Heap.empty)) (PJ2 s):=by
 intro d
 induction d with
 | zero =>
  intro n h0 h1 h2
  refine .nrm (R:=fun a=>rJ2 (base 23 30) a.1 a) (L:=lJ2) (N:=nJ2) (fun _=>rfl) (fun ⟨b,w,n,r⟩=>by cases b <;> kernel_rfl) PJ2.n (Tk.by (.of (fun m=>zY1 (XM m) _ none some s n) ?_))
  refine Rn.dec (fun h=>absurd h (by omega)) (fun _=>?_)
  exact Rn.ret ⟨(true,_,_,0),rfl,PJ2.t (by omega) (by omega)⟩
 | succ d IH =>
  intro n h0 h1 h2
  refine .nrm (R:=fun a=>rJ2 (base 23 30) a.1 a) (L:=lJ2) (N:=nJ2) (fun _=>rfl) (fun ⟨b,w,n,r⟩=>by cases b <;> kernel_rfl) PJ2.n (Tk.by (.of (fun m=>zY1 (XM m) _ none some s n) ?_))
  have fin:∀ a,PJ2 s a→Rn (fun _=>bif a.1 then some (.code (.exit 0) ((base 23 30).on [(0,.str a.2.1),(3,.int .i64 a.2.2.1)]) Heap.empty) else some (.code .ret ((base 23 30).on [(0,.str a.2.1),(2,.int .i64 a.2.2.2),(3,.int .i64 a.2.2.1)]) Heap.empty)) (fun r=>∃ a,r=rJ2 (base 23 30) a.1 a∧PJ2 s (nJ2 a)):=fun a ha=>Rn.cond (fun h=>Rn.ret ⟨(true,_,_,0),rfl,ha.t' h⟩) (fun h=>Rn.ret ⟨(false,_,_,_),rfl,ha.f' h⟩)
  refine Rn.dec (fun _=>?_) (fun _=>Rn.ret ⟨(true,_,_,0),rfl,PJ2.t (by omega) (by omega)⟩)
  refine Rn.nX (by omega) ?_
  refine Rn.ndec (fun _=>?_) (fun _=>Rn.ret ⟨(true,_,_,0),rfl,PJ2.t (by omega) (by omega)⟩)
  refine Rn.nX (by omega) ?_
  refine Rn.dec (fun _=>?_) (fun _=>?_)
  ·refine Rn.need (by omega) ?_
   have hd:=QG0 (s:=s) (n:=n) (by omega) (by omega)
   refine Rn.bndO (YR1 (s.drop n.toNat)) (fun a ⟨_,_⟩=>?_)
   refine Rn.dec (fun _=>?_) (fun _=>?_)
   ·exact Rn.ret ⟨(false,_,_,_),rfl,PJ2.f (by omega) (by omega)⟩
   ·refine Rn.nI (by omega) ?_
    exact Rn.bndO (IH (n+a) (by omega) (by omega) (by omega)) fin
  ·refine Rn.nI (by omega) ?_
   exact Rn.bndO (IH (n+1) (by omega) (by omega) (by omega)) fin
theorem GJ1 (s:List UInt8) (hs:s.length≤1000000000000):Ok1 (fun X=>X.I (.call 23 [.str s] Heap.empty)) fun a=>0≤a∧a≤s.length :=
 .tk (R:=rI) (L:=lI) (fun _=>rfl) (fun _=>rfl) (Tk.by (.of (fun m=>Jr1 (XM m) _ none some s) (by
  refine Rn.bndO (GI1 s hs s.length 0 (by omega) (by omega) (by omega)) (fun a ha=>?_)
  refine Rn.cond (fun h=>Rn.ret ⟨_,rfl,ha.2.1 h⟩) (fun h=>Rn.ret ⟨_,rfl,ha.2.2 h⟩))))
theorem zk1 (s:List UInt8) (hs:s.length≤1000000000000) (n:Int) (h0:0≤n) (h1:n≤s.length):Ok1 (fun X=>X.I (.call 92 [.str (List.drop n.toNat s)] Heap.empty)) fun a=>0≤a∧n+a≤s.length:=by
 have hd:=QG0 (s:=s) h0 h1
 exact (zj1 (s.drop n.toNat) (by omega)).weak fun a ⟨_,_⟩=>⟨by omega,by omega⟩
theorem Yr1 (s:List UInt8) (hs:s.length≤1000000000000) (h1:1≤s.length):Ok1 (fun X=>X.I (.call 92 [.str (List.drop 1 s)] Heap.empty)) fun a=>0≤a∧1+a≤s.length:=zk1 s hs 1 (by omega) (by omega)
theorem Gf1 (s:List UInt8) (hs:s.length≤1000000000000):Ok1 (fun X=>X.I (.call 51 [.str s] Heap.empty)) fun a=>0≤a∧a≤s.length :=
 .tk (R:=rI) (L:=lI) (fun _=>rfl) (fun _=>rfl) (Tk.by (.of (fun m=>Ji1 (XM m) _ none some s) (by
  refine Rn.bndO (zj1 s hs) (fun a0 ⟨_,_⟩=>?_)
  repeat' (first | refine Rn.dec (fun _=>?_) (fun _=>?_) | refine Rn.ndec (fun _=>?_) (fun _=>?_) | refine Rn.nI (by omega) ?_ | refine Rn.nX (by first | omega | (have:=List.length_pos_iff.2 (by assumption:¬ s=[]);omega)) ?_ | refine Rn.need (by first | omega | (have:=List.length_pos_iff.2 (by assumption:¬ s=[]);omega)) ?_ | refine Rn.join ?_ (fun _ hj=>?_) | assumption | exact Rn.ret ⟨_,rfl,by omega,by omega⟩ | (refine Rn.bndO (zk1 s hs _ ?_ ?_) (fun _ ⟨_,_⟩=>?_)) | (refine Rn.bndO (Yr1 s hs ?_) (fun _ ⟨_,_⟩=>?_)) | omega | (have:=List.length_pos_iff.2 (by assumption:¬ s=[]);omega)))))
theorem Go1 (s:List UInt8) (ws:List (List UInt8)) (hws:ws.length≤100):∀ (d:Nat) (i:Int),0≤i→i≤ws.length→ws.length-i≤d→Ok1 (fun X=>X.J3 (.code (.loop (lpB PP 52 0)) ((base 52 39).on [(0,.str s),(3,.osl 1 (ws.map V.str)),(4,.int .i64 i)]) Heap.empty)) (PJ3 s 0 s.length):=by
 intro d
 induction d with
 | zero =>
  intro i h0 h1 h2
  refine .nrm (R:=fun a=>rJ3 (base 52 39) a.1 a) (L:=lJ3) (N:=nJ3) (fun _=>rfl) (fun ⟨b,w,r⟩=>by cases b <;> kernel_rfl) PJ3.n (Tk.by (.of (fun m=>zW1 (XM m) _ none some s (ws.map V.str) i) ?_))
  rw [List.length_map]
  refine Rn.dec (fun h=>absurd h (by omega)) (fun _=>?_)
  exact Rn.ret ⟨(true,_,0),rfl,PJ3.t⟩
 | succ d IH =>
  intro i h0 h1 h2
  refine .nrm (R:=fun a=>rJ3 (base 52 39) a.1 a) (L:=lJ3) (N:=nJ3) (fun _=>rfl) (fun ⟨b,w,r⟩=>by cases b <;> kernel_rfl) PJ3.n (Tk.by (.of (fun m=>zW1 (XM m) _ none some s (ws.map V.str) i) ?_))
  rw [List.length_map]
  refine Rn.dec (fun _=>?_) (fun _=>Rn.ret ⟨(true,_,0),rfl,PJ3.t⟩)
  obtain ⟨w,hw⟩:∃ w,(ws.map V.str)[i.toNat]?=some (.str w):=⟨_,jn0 (by omega)⟩
  obtain ⟨g1,g2,g3⟩:=Xn0 hw
  refine Rn.nX (by omega) ?_
  refine Rn.need g1 ?_
  rw [g3]
  refine Rn.join ?_ (fun _ hj=>?_)
  ·refine Rn.nI (by omega) ?_
   exact Rn.bndO (IH (i+1) (by omega) (by omega) (by omega)) (fun a ha=>Rn.cond (fun h=>Rn.ret ⟨(true,_,0),rfl,ha.t'⟩) (fun h=>Rn.ret ⟨(false,_,_),rfl,ha.f' h⟩))
  ·repeat' (first | refine Rn.dec (fun _=>?_) (fun _=>?_) | refine Rn.ndec (fun _=>?_) (fun _=>?_) | refine Rn.nI (by omega) ?_ | refine Rn.nX (by omega) ?_ | refine Rn.need (by omega) ?_ | refine Rn.join ?_ (fun _ hj=>?_) | assumption | refine Rn.cond (fun _=>?_) (fun _=>?_) | refine Rn.need g1 ?_ | refine Rn.need g2 ?_ | exact Rn.ret ⟨(false,_,_),rfl,PJ3.f (by first | omega | exact Int.natCast_nonneg _) (by first | omega | assumption)⟩)
def operT:List (List UInt8):=[[63,47,47],[47,47,61],[33,61],[61,61],[60,61],[62,61],[124,61],[43,61],[45,61],[42,61],[47,61],[37,61],[47,47],[46,46],[46],[91],[93],[40],[41],[123],[125],[44],[58],[59],[61],[124],[43],[45],[42],[47],[37],[60],[62],[63]]
noncomputable def lE (sz:Nat):Res→List V
 | .ret (.osl _ es) _=>es
 | _=>[]
theorem Gq1:Ok1 (fun X=>X.E (.call 93 [] Heap.empty)) fun a=>a=operT.map V.str :=
 .tk (R:=rEm) (L:=lE 1) (fun _=>rfl) (fun _=>rfl) (Tk.by (.of (fun m=>Jl1 (XM m) _ none some) (Rn.ret ⟨_,rfl,rfl⟩)))
theorem Gp1 (s:List UInt8):Ok1 (fun X=>X.I (.call 52 [.str s] Heap.empty)) fun a=>0≤a∧a≤s.length :=
 .tk (R:=rI) (L:=lI) (fun _=>rfl) (fun _=>rfl) (Tk.by (.of (fun m=>Jk1 (XM m) _ none some s) (by
  refine Rn.bndO Gq1 (fun a ha=>?_)
  subst ha
  refine Rn.bndO (Go1 s operT (by decide) 34 0 (by omega) (by decide) (by decide)) (fun a ha=>?_)
  refine Rn.cond (fun h=>?_) (fun h=>Rn.ret ⟨_,rfl,ha.2 h⟩)
  all_goals exact Rn.ret ⟨_,rfl,by omega,by omega⟩)))
def lTk:Res→Int×List UInt8
 | .ret v _=>(match v with
  | .agg [a,b]=>(vI a,vS b)
  | _=>(0,[]))
 | _=>(0,[])
theorem yg2 (s:List UInt8) (hs:s.length≤1000000000000) (h1:1≤s.length):Ok1 (fun X=>X.I (.call 48 [.str (List.drop 1 s)] Heap.empty)) fun a=>0≤a∧1+a≤s.length:=by
 have hd:(s.drop 1).length=s.length-1:=List.length_drop ..
 exact (QM1 (s.drop 1) (by omega)).weak fun a ⟨_,_⟩=>⟨by omega,by omega⟩
theorem GD1 (s:List UInt8) (hs:s.length≤1000000000000) (h1:1≤s.length):Ok1 (fun X=>X.I (.call 50 [.str (List.drop 1 s)] Heap.empty)) fun a=>0≤a∧1+a≤s.length:=by
 have hd:(s.drop 1).length=s.length-1:=List.length_drop ..
 exact (GF1 (s.drop 1) (by omega)).weak fun a ⟨_,_⟩=>⟨by omega,by omega⟩
theorem Qc1 (s:List UInt8) (hs:s.length≤1000000000000) (h1:1≤s.length):Ok1 (fun X=>X.K (.call 25 [.str s] Heap.empty)) fun a=>a.2.length≤s.length :=
 .tk (R:=rTk) (L:=lTk) (fun _=>rfl) (fun _=>rfl) (Tk.by (.of (fun m=>Ju1 (XM m) _ none some s) (by
  repeat' (first | refine Rn.dec (fun _=>?_) (fun _=>?_) | refine Rn.nI (by omega) ?_ | refine Rn.nX (by omega) ?_ | refine Rn.need (by omega) ?_ | refine Rn.join ?_ (fun _ hj=>?_) | assumption | exact Rn.ret ⟨(_,_),rfl,by show (List.take _ _).length≤_;rw [List.length_take];omega⟩ | (with_reducible refine Rn.bndO (Qy0 _) (fun _ _=>?_)) | (with_reducible refine Rn.bndO (QT0 _) (fun _ _=>?_)) | (with_reducible refine Rn.bndO (Zx1 s hs) (fun _ ⟨_,_⟩=>?_)) | (with_reducible refine Rn.bndO (Ge1 s hs) (fun _ ⟨_,_⟩=>?_)) | (with_reducible refine Rn.bndO (QM1 s hs) (fun _ ⟨_,_⟩=>?_)) | (with_reducible refine Rn.bndO (Gf1 s hs) (fun _ ⟨_,_⟩=>?_)) | (with_reducible refine Rn.bndO (Gp1 s) (fun _ ⟨_,_⟩=>?_)) | (with_reducible refine Rn.bndO (yg2 s hs h1) (fun _ ⟨_,_⟩=>?_)) | (with_reducible refine Rn.bndO (GD1 s hs h1) (fun _ ⟨_,_⟩=>?_)) | refine Rn.cond (fun _=>?_) (fun _=>?_)))))
theorem KO1 (c:Int):Ok1 (fun X=>X.I (.call 43 [.int .u8 c] Heap.empty)) fun a=>-1≤a∧a≤3 :=
 .tk (R:=rI) (L:=lI) (fun _=>rfl) (fun _=>rfl) (Tk.by (.of (fun m=>Je1 (XM m) _ none some c) (by
  (repeat' (first | refine Rn.dec (fun _=>?_) (fun _=>?_) | refine Rn.ndec (fun _=>?_) (fun _=>?_) | refine Rn.nI (by omega) ?_ | refine Rn.nX (by omega) ?_ | refine Rn.need (by omega) ?_ | refine Rn.join ?_ (fun _ hj=>?_) | assumption | refine Rn.cond (fun _=>?_) (fun _=>?_)))
  all_goals exact Rn.ret ⟨_,rfl,by omega,by omega⟩)))
theorem qT1 (s:List UInt8) (i:Int):0≤qg0 s i∧qg0 s i≤255:=by
 unfold qg0
 have:=(s.getD i.toNat 0).toNat_lt
 omega
def PJ4 (s:List UInt8) (n:Int) (a:Bool×List UInt8×Int×Int×Int):Prop:=a.2.1=s∧a.2.2.1=n∧(a.1=false→a.2.2.2.2=0)
theorem PJ4.n {s:List UInt8} {n:Int}:∀ a,PJ4 s n (nJ4 a)→PJ4 s n a:=fun ⟨b,w,n,r,q⟩ h=>by
 cases b with
 | true=>exact ⟨h.1,h.2.1,fun e=>by cases e⟩
 | false=>exact h
theorem jz1 (s:List UInt8) (n:Int) (hn:n≤3) (hs:n<s.length) (hs2:s.length≤1000000000000):∀ (d:Nat) (i r:Int),1≤i→4-i≤d→0≤r→(i=1→r≤255)→(i=2→r≤20000)→(i=3→r≤2000000)→Ok1 (fun X=>X.J4 (.code (.loop (lpB PP 22 0)) ((base 22 80).on [(0,.str s),(3,.int .i64 n),(4,.int .i64 r),(5,.int .i64 i)]) Heap.empty)) (PJ4 s n):=by
 intro d
 induction d with
 | zero =>
  intro i r h0 h1 h2 h3 h4 h5
  refine .nrm (R:=fun a=>rJ4 (base 22 80) a.1 a) (L:=lJ4) (N:=nJ4) (fun _=>rfl) (fun ⟨b,w,n,r,q⟩=>by cases b <;> kernel_rfl) PJ4.n (Tk.by (.of (fun m=>zV1 (XM m) _ none some s n r i) ?_))
  refine Rn.dec (fun h=>absurd h (by omega)) (fun _=>?_)
  exact Rn.ret ⟨(true,_,_,_,0),rfl,rfl,rfl,fun e=>by cases e⟩
 | succ d IH =>
  intro i r h0 h1 h2 h3 h4 h5
  refine .nrm (R:=fun a=>rJ4 (base 22 80) a.1 a) (L:=lJ4) (N:=nJ4) (fun _=>rfl) (fun ⟨b,w,n,r,q⟩=>by cases b <;> kernel_rfl) PJ4.n (Tk.by (.of (fun m=>zV1 (XM m) _ none some s n r i) ?_))
  refine Rn.dec (fun _=>?_) (fun _=>Rn.ret ⟨(true,_,_,_,0),rfl,rfl,rfl,fun e=>by cases e⟩)
  have hb:=qT1 s i
  have hi:i=1∨i=2∨i=3:=by omega
  refine Rn.nX (by omega) ?_
  refine Rn.dec (fun _=>Rn.ret ⟨(false,_,_,_,_),rfl,rfl,rfl,fun _=>rfl⟩) (fun _=>?_)
  refine Rn.nX (by omega) ?_
  refine Rn.dec (fun _=>Rn.ret ⟨(false,_,_,_,_),rfl,rfl,rfl,fun _=>rfl⟩) (fun _=>?_)
  refine Rn.nI (by rcases hi with h | h | h <;> omega) ?_
  refine Rn.nX (by omega) ?_
  refine Rn.need (by omega) ?_
  refine Rn.nI (by omega) ?_
  refine Rn.nI (by rcases hi with h | h | h <;> omega) ?_
  refine Rn.nI (by omega) ?_
  exact Rn.bndO (IH (i+1) (64*r+qg0 s i%64) (by omega) (by omega) (by omega) (by omega) (by intro e;have:=h3 (by omega);omega) (by intro e;have:=h4 (by omega);omega)) (fun a ⟨p1,p2,p3⟩=>Rn.cond (fun h=>Rn.ret ⟨(true,_,_,_,0),rfl,p1,p2,fun e=>by cases e⟩) (fun h=>Rn.ret ⟨(false,_,_,_,_),rfl,p1,p2,fun _=>p3 h⟩))
theorem one_ok (s:List UInt8) (hs:s.length≤1000000000000):Ok1 (fun X=>X.I (.call 22 [.str s] Heap.empty)) fun a=>0≤a∧a≤s.length :=
 .tk (R:=rI) (L:=lI) (fun _=>rfl) (fun _=>rfl) (Tk.by (.of (fun m=>ev_one (XM m) _ none some s) (by
  refine Rn.dec (fun _=>?_) (fun hne=>?_)
  ·all_goals exact Rn.ret ⟨_,rfl,by omega,by omega⟩
  have hp:=List.length_pos_iff.2 hne
  obtain ⟨n,⟨n1,n2⟩,hn⟩:=KO1 (qg0 s 0)
  refine Rn.nX (by omega) ?_
  refine Rn.bnd hn ?_
  refine Rn.dec (fun _=>?_) (fun _=>?_)
  ·all_goals exact Rn.ret ⟨_,rfl,by omega,by omega⟩
  refine Rn.nX (by omega) ?_
  refine Rn.bnd hn ?_
  refine Rn.dec (fun _=>?_) (fun _=>?_)
  ·all_goals exact Rn.ret ⟨_,rfl,by omega,by omega⟩
  refine Rn.nX (by omega) ?_
  refine Rn.bnd hn ?_
  have hb:=qT1 s 0
  have fin:∀ a,PJ4 s n a→Rn (fun _=>bif a.1 then (need none (((0:Int)≤a.2.2.1)∧(a.2.2.1<4)) (need none (ldC PP 3 1 [.int .i64 0,.int .i64 128,.int .i64 2048,.int .i64 65536] (Int.toNat a.2.2.1*1)) (bif decide (a.2.2.2.1<gI 1 [V.int IntKind.i64 0,V.int IntKind.i64 128,V.int IntKind.i64 2048,V.int IntKind.i64 65536] (Int.toNat a.2.2.1*1) 0) then (some (.ret (.int .i64 0) Heap.empty))
   else (jn (bif decide (1114111<a.2.2.2.1) then (some (.ret (.int .i64 0) Heap.empty))
   else (nI none (a.2.2.1+1) (some (.ret (.int .i64 (a.2.2.1+1)) Heap.empty))))
   (fun j1=>bif decide (55296≤a.2.2.2.1) then (bif decide (a.2.2.2.1≤57343) then (some (.ret (.int .i64 0) Heap.empty))
   else (j1))
   else (j1))))))
   else (some (.ret (.int .i64 a.2.2.2.2) Heap.empty))) (fun r=>∃ a,r=rI a∧0≤a∧a≤s.length):=by
    rintro ⟨b,w,m,r,q⟩ ⟨p1,p2,p3⟩
    change m=n at p2
    subst p2
    refine Rn.cond (fun _=>?_) (fun hb=>?_)
    ·dsimp only
     refine Rn.need (by omega) ?_
     have hl:ldC PP 3 1 [.int .i64 0,.int .i64 128,.int .i64 2048,.int .i64 65536] (Int.toNat m*1):=by
      have hm:m=0∨m=1∨m=2∨m=3:=by omega
      rcases hm with rfl | rfl | rfl | rfl <;> exact (QS0 rfl).2.1
     refine Rn.need hl ?_
     repeat' (first | refine Rn.dec (fun _=>?_) (fun _=>?_) | refine Rn.ndec (fun _=>?_) (fun _=>?_) | refine Rn.nI (by omega) ?_ | refine Rn.nX (by omega) ?_ | refine Rn.need (by omega) ?_ | refine Rn.join ?_ (fun _ hj=>?_) | assumption | refine Rn.cond (fun _=>?_) (fun _=>?_) | exact Rn.ret ⟨_,rfl,by omega,by omega⟩)
    ·have:=p3 hb
     refine Rn.ret ⟨_,rfl,?_,?_⟩
     ·rw [this];omega
     ·rw [this];omega
  refine Rn.nX (by omega) ?_
  refine Rn.nI (by omega) ?_
  refine Rn.dec (fun _=>?_) (fun _=>?_)
  ·have hp2:0<(64:Int)/2^Int.toNat n:=by
    have hm:n=1∨n=2∨n=3:=by omega
    rcases hm with rfl | rfl | rfl <;> decide
   have hp3:(64:Int)/2^Int.toNat n≤64:=by
    have hm:n=1∨n=2∨n=3:=by omega
    rcases hm with rfl | rfl | rfl <;> decide
   refine Rn.need (by omega) ?_
   refine Rn.need (by
    have hm:n=1∨n=2∨n=3:=by omega
    rcases hm with rfl | rfl | rfl <;> first | rfl | kernel_rfl) ?_
   refine Rn.need ⟨by omega,hp2⟩ ?_
   generalize (64:Int)/2^Int.toNat n=q at hp2 hp3
   have h1:=Int.emod_nonneg (qg0 s 0) (show q≠0 by omega)
   have h2:=Int.emod_lt_of_pos (qg0 s 0) hp2
   exact Rn.bndO (jz1 s n (by omega) (by omega) hs 4 1 _ (by omega) (by omega) h1 (by omega) (by omega) (by omega)) fin
  ·exact Rn.bndO (jz1 s n (by omega) (by omega) hs 4 1 _ (by omega) (by omega) hb.1 (by omega) (by omega) (by omega)) fin)))
theorem ZY1 (s:List UInt8) (hs:s.length≤1000000000000):∀ (d:Nat) (n:Int),0≤n→n≤s.length→(s.length:Int)-n≤d→Ok1 (fun X=>X.J3 (.code (.loop (lpB PP 12 0)) ((base 12 19).on [(0,.str s),(3,.int .i64 n)]) Heap.empty)) (PJ3 s 0 s.length):=by
 intro d
 induction d with
 | zero =>
  intro n h0 h1 h2
  refine .nrm (R:=fun a=>rJ3 (base 12 19) a.1 a) (L:=lJ3) (N:=nJ3) (fun _=>rfl) (fun ⟨b,w,r⟩=>by cases b <;> kernel_rfl) PJ3.n (Tk.by (.of (fun m=>zM1 (XM m) _ none some s n) ?_))
  refine Rn.dec (fun h=>absurd h (by omega)) (fun _=>?_)
  exact Rn.ret ⟨(true,_,0),rfl,PJ3.t⟩
 | succ d IH =>
  intro n h0 h1 h2
  refine .nrm (R:=fun a=>rJ3 (base 12 19) a.1 a) (L:=lJ3) (N:=nJ3) (fun _=>rfl) (fun ⟨b,w,r⟩=>by cases b <;> kernel_rfl) PJ3.n (Tk.by (.of (fun m=>zM1 (XM m) _ none some s n) ?_))
  refine Rn.dec (fun _=>?_) (fun _=>Rn.ret ⟨(true,_,0),rfl,PJ3.t⟩)
  refine Rn.need (by omega) ?_
  have hd:=QG0 (s:=s) (n:=n) (by omega) (by omega)
  refine Rn.bndO (one_ok (s.drop n.toNat) (by omega)) (fun a ⟨_,_⟩=>?_)
  refine Rn.dec (fun _=>?_) (fun _=>?_)
  ·exact Rn.ret ⟨(false,_,_),rfl,PJ3.f (by omega) (by omega)⟩
  ·refine Rn.nI (by omega) ?_
   exact Rn.bndO (IH (n+a) (by omega) (by omega) (by omega)) (fun a ha=>Rn.cond (fun h=>Rn.ret ⟨(true,_,0),rfl,ha.t'⟩) (fun h=>Rn.ret ⟨(false,_,_),rfl,ha.f' h⟩))
theorem ZZ1 (s:List UInt8) (hs:s.length≤1000000000000):Ok1 (fun X=>X.I (.call 12 [.str s] Heap.empty)) fun a=>-1≤a∧a≤s.length :=
 .tk (R:=rI) (L:=lI) (fun _=>rfl) (fun _=>rfl) (Tk.by (.of (fun m=>YW1 (XM m) _ none some s) (by
  refine Rn.bndO (ZY1 s hs s.length 0 (by omega) (by omega) (by omega)) (fun a ha=>?_)
  refine Rn.cond (fun h=>Rn.ret ⟨_,rfl,by omega,by omega⟩) (fun h=>?_)
  have:=ha.2 h
  exact Rn.ret ⟨_,rfl,by omega,by omega⟩)))
def TS (at1:Int) (n:Nat) (l:List V):Prop:=∃ ts:List (Int×List UInt8),l=ts.map qu0∧n=ts.length∧(ts.length:Int)≤at1∧∀ t,t∈ts→t.2≠[]∧t.2.length≤65536
def OS (at1:Int) (o:List V):Prop:=∃ zs:List Int,o=zs.map (V.int .i64)∧(zs.length:Int)≤at1∧∀ z,z∈zs→-at1≤z∧z≤at1
theorem TS.gnd {at1:Int} {n:Nat} {l:List V} (h:TS at1 n l):GndR l:=by obtain ⟨ts,rfl,_⟩:=h;exact Xo1 ts
theorem TS.len {at1:Int} {n:Nat} {l:List V} (h:TS at1 n l):n=l.length∧(n:Int)≤at1:=by obtain ⟨ts,rfl,rfl,h,_⟩:=h;exact ⟨by rw [List.length_map],h⟩
theorem TS.put {at1:Int} {n:Nat} {l:List V} (h:TS at1 n l) {k:Int} {w:List UInt8} (hw:w≠[]) (hw2:w.length≤65536):TS (at1+(w.length:Int)) (n+1) (l++[V.agg [V.int IntKind.i64 k,V.str w]]):=by
 obtain ⟨ts,rfl,rfl,h1,h2⟩:=h
 have:=List.length_pos_iff.2 hw
 refine ⟨ts++[(k,w)],by rw [List.map_append];rfl,by simp,by simp;omega,fun t ht=>?_⟩
 rcases List.mem_append.1 ht with h | h
 ·exact h2 t h
 ·rw [List.mem_singleton] at h;rw [h];exact ⟨hw,hw2⟩
theorem TS.nil {at1:Int} (h:0≤at1):TS at1 0 []:=⟨[],rfl,rfl,h,fun t ht=>by cases ht⟩
theorem OS.mono {a b:Int} {o:List V} (h:OS a o) (hab:a≤b):OS b o:=by
 obtain ⟨zs,rfl,h1,h2⟩:=h
 exact ⟨zs,rfl,by omega,fun z hz=>by have:=h2 z hz;omega⟩
theorem OS.nil {a:Int} (h:0≤a):OS a []:=⟨[],rfl,h,fun z hz=>by cases hz⟩
theorem OS.gnd {a:Int} {o:List V} (h:OS a o):GndR o:=by obtain ⟨zs,rfl,_⟩:=h;exact Xl1 zs
theorem OS.len {a:Int} {o:List V} (h:OS a o):(o.length:Int)≤a:=by obtain ⟨zs,rfl,h,_⟩:=h;rw [List.length_map];exact h
theorem OS.push {a:Int} {o:List V} (h:OS a o) (h0:0≤a):OS (a+1) (o++[V.int .i64 0]):=by
 obtain ⟨zs,rfl,h1,h2⟩:=h
 refine ⟨zs++[0],by rw [List.map_append];rfl,by simp;omega,fun z hz=>?_⟩
 rcases List.mem_append.1 hz with h | h
 ·have:=h2 z h;omega
 ·rw [List.mem_singleton] at h;omega
theorem OS.take {a:Int} {o:List V} (h:OS a o) (n:Nat):OS a (o.take n):=by
 obtain ⟨zs,rfl,h1,h2⟩:=h
 refine ⟨zs.take n,List.map_take.symm,by rw [List.length_take];omega,fun z hz=>h2 z (List.mem_of_mem_take hz)⟩
theorem OS.get {a:Int} {o:List V} (h:OS a o) {i:Nat} (hi:i<o.length):∃ z:Int,o[i]?=some (.int .i64 z)∧-a≤z∧z≤a:=by
 obtain ⟨zs,rfl,h1,h2⟩:=h
 rw [List.length_map] at hi
 exact ⟨zs[i],jn0 hi,h2 _ (List.getElem_mem hi)⟩
theorem Qq0 {o:List V} {i:Nat} {z y:Int} (h:o[i]?=some (.int .i64 z)):qT0 1 o (i*1) (.int .i64 y)=o.set i (.int .i64 y):=by
 unfold qT0
 rw [Nat.mul_one,Nat.div_one,Nat.mod_one,show o.getD i undef=.int .i64 z by rw [List.getD_eq_getElem?_getD,h];rfl,List.setN_eq]
 rfl
theorem Qr0 {o:List V} {i:Nat} {z y:Int} (h:o[i]?=some (.int .i64 z)):stX PP 3 (.int .i64 y) 0 1 o (i*1):=by
 have hi:=qd0 h
 refine ⟨rfl,by kernel_rfl,Nat.zero_le _,by decide,by rw [Nat.mul_one,Nat.div_one];exact hi,?_⟩
 rw [Nat.mul_one,Nat.div_one,Nat.mod_one,show o.getD i undef=.int .i64 z by rw [List.getD_eq_getElem?_getD,h];rfl]
 intro e;cases e
theorem OS.set {a:Int} {o:List V} (h:OS a o) {i:Nat} (hi:i<o.length) {y:Int} (hy:-(a+1)≤y∧y≤a+1):OS (a+1) (o.set i (.int .i64 y)):=by
 obtain ⟨zs,rfl,h1,h2⟩:=h
 refine ⟨zs.set i y,by rw [List.map_set],by rw [List.length_set];omega,fun z hz=>?_⟩
 rcases List.mem_or_eq_of_mem_set hz with h | h
 ·have:=h2 z h;omega
 ·rw [h];exact hy
noncomputable def lL:Res→Lx
 | .ret v h=>(match v with
  | .agg [a,b,c,d,e,f]=>(match c with
   | .sl _ ver _ n _=>(match dL h with
    | some p=>⟨vS a,vI b,ver,n,p.2,qK0 d,vB e,vI f,true⟩
    | none=>⟨[],0,0,0,[],[],false,0,false⟩)
   | _=>⟨vS a,vI b,0,0,[],qK0 d,vB e,vI f,false⟩)
  | _=>⟨[],0,0,0,[],[],false,0,false⟩)
 | _=>⟨[],0,0,0,[],[],false,0,false⟩
def nL (a:Lx):Lx:=bif a.z then ⟨a.s,a.at1,a.ver,a.n,a.l,a.o,a.i,a.e,true⟩ else ⟨a.s,a.at1,0,0,[],a.o,a.i,11,false⟩
theorem YN0 (a:Lx):lL (rLx a)=nL a:=by
 obtain ⟨s,at1,ver,n,l,o,i,e,z⟩:=a
 cases z <;> kernel_rfl
def LxR (s:List UInt8) (at1:Int) (a:Lx):Prop:=a.z=true∧a.s=s∧at1≤a.at1∧a.at1≤s.length∧(a.e=0→at1<a.at1)∧TS a.at1 a.n a.l∧OS a.at1 a.o
theorem LxR.n {s:List UInt8} {at1:Int}:∀ a,LxR s at1 (nL a)→LxR s at1 a:=fun ⟨s,at1,ver,n,l,o,i,e,z⟩ h=>by
 cases z with
 | true=>exact h
 | false=>cases h.1
def LP (s:List UInt8) (at1:Int) (i:Bool) (e:Int) (a:Lx):Prop:=a.z=true∧a.s=s∧a.at1=at1∧a.i=i∧a.e=e∧TS a.at1 a.n a.l∧OS a.at1 a.o
theorem LP.n {s:List UInt8} {at1:Int} {i:Bool} {e:Int}:∀ a,LP s at1 i e (nL a)→LP s at1 i e a:=fun ⟨s,at1,ver,n,l,o,i,e,z⟩ h=>by
 cases z with
 | true=>exact h
 | false=>cases h.1
theorem yD0 (s:List UInt8) (hs:s.length≤65536) (at1:Int) (h0:0≤at1) (ver n:Nat) (l o:List V) (i:Bool) (e kk:Int) (w:List UInt8) (hw:w≠[]) (h1:at1+(w.length:Int)≤s.length) (hl:TS at1 n l) (ho:OS (at1+(w.length:Int)) o):Ok1 (fun X=>X.L (.call 24 [.agg [.str s,.int .i64 at1,.sl 0 ver 0 n none,.osl 1 o,.bool i,.int .i64 e],.agg [.int .i64 kk,.str w]] (hpL ver l))) (LP s (at1+(w.length:Int)) i e):=by
 have hln:=hl.len
 have hp:=hl.put (k:=kk) hw (by omega)
 refine .nrm (R:=rLx) (L:=lL) (N:=nL) (fun _=>rfl) YN0 LP.n (Tk.by (.of (fun m=>Jt1 (XM m) _ none some s at1 ver n l o i e kk w) ?_))
 refine Rn.need ⟨rfl,List.cons_ne_nil _ _,hln.1,Nat.zero_le _,by simp only [List.length_singleton];omega,by simp only [List.length_singleton];omega⟩ ?_
 refine Rn.nI (by omega) ?_
 refine Rn.cond (fun hi=>?_) (fun hi=>?_)
 ·exact Rn.need hp.gnd (Rn.ret ⟨⟨s,at1+(w.length:Int),ver+1,n+1,_,o,true,e,true⟩,rfl,rfl,rfl,rfl,hi.symm,rfl,hp,ho⟩)
 ·exact Rn.need hp.gnd (Rn.ret ⟨⟨s,at1+(w.length:Int),ver+1,n+1,_,o,false,e,true⟩,rfl,rfl,rfl,rfl,hi.symm,rfl,hp,ho⟩)
theorem QZ0 (s:List UInt8) (hs:s.length≤65536) (at1:Int) (h0:0≤at1) (o:List V) (i:Bool) (e kk:Int) (w:List UInt8) (hw:w≠[]) (h1:at1+(w.length:Int)≤s.length) (ho:OS (at1+(w.length:Int)) o):Ok1 (fun X=>X.L (.call 24 [.agg [.str s,.int .i64 at1,.nils,.osl 1 o,.bool i,.int .i64 e],.agg [.int .i64 kk,.str w]] Heap.empty)) (LP s (at1+(w.length:Int)) i e):=by
 have hp:=(TS.nil h0).put (k:=kk) hw (by omega)
 refine .nrm (R:=rLx) (L:=lL) (N:=nL) (fun _=>rfl) YN0 LP.n (Tk.by (.of (fun m=>Js1 (XM m) _ none some s at1 o i e kk w) ?_))
 refine Rn.need ⟨List.cons_ne_nil _ _,by omega,by omega⟩ ?_
 refine Rn.nI (by omega) ?_
 refine Rn.cond (fun hi=>?_) (fun hi=>?_)
 ·exact Rn.need hp.gnd (Rn.ret ⟨⟨s,at1+(w.length:Int),0,1,_,o,true,e,true⟩,rfl,rfl,rfl,rfl,hi.symm,rfl,hp,ho⟩)
 ·exact Rn.need hp.gnd (Rn.ret ⟨⟨s,at1+(w.length:Int),0,1,_,o,false,e,true⟩,rfl,rfl,rfl,rfl,hi.symm,rfl,hp,ho⟩)
theorem yv0 {s:List UInt8} {at1 at2:Int} {i:Bool} {e:Int} (h1:at1<at2) (h2:at2≤s.length) (a:Lx) (ha:LP s at2 i e a):Rn (fun _=>bif a.z then need none (GndR a.l) (bif a.i then need none (GndR a.l) (some (.ret (.agg [.str a.s,.int .i64 a.at1,.sl 0 a.ver 0 a.n none,.osl 1 a.o,.bool true,.int .i64 a.e]) (hpL a.ver a.l))) else need none (GndR a.l) (some (.ret (.agg [.str a.s,.int .i64 a.at1,.sl 0 a.ver 0 a.n none,.osl 1 a.o,.bool false,.int .i64 a.e]) (hpL a.ver a.l)))) else none) (fun r=>∃ a,r=rLx a∧LxR s at1 (nL a)):=by
 obtain ⟨s',at',ver,n,l,o,i',e',z⟩:=a
 obtain ⟨p1,p2,p3,p4,p5,p6,p7⟩:=ha
 change z=true at p1
 change s'=s at p2
 change at'=at2 at p3
 subst p1 p2 p3
 refine Rn.need p6.gnd ?_
 refine Rn.cond (fun hi=>?_) (fun hi=>?_)
 ·exact Rn.need p6.gnd (Rn.ret ⟨⟨s',at',ver,n,l,o,true,e',true⟩,rfl,rfl,rfl,Int.le_of_lt h1,h2,fun _=>h1,p6,p7⟩)
 ·exact Rn.need p6.gnd (Rn.ret ⟨⟨s',at',ver,n,l,o,false,e',true⟩,rfl,rfl,rfl,Int.le_of_lt h1,h2,fun _=>h1,p6,p7⟩)
theorem XC1 (s:List UInt8) (hs:s.length≤65536) (at1:Int) (h0:0≤at1) (h1:at1<s.length) (ver n:Nat) (l o:List V) (e:Int) (hl:TS at1 n l) (ho:OS at1 o):Ok1 (fun X=>X.L (.call 13 [.agg [.str s,.int .i64 at1,.sl 0 ver 0 n none,.osl 1 o,.bool true,.int .i64 e]] (hpL ver l))) (LxR s at1):=by
 refine .nrm (R:=rLx) (L:=lL) (N:=nL) (fun _=>rfl) YN0 LxR.n (Tk.by (.of (fun m=>Jb1 (XM m) _ none some s at1 ver n l o e) ?_))
 have hd:=QG0 (s:=s) (n:=at1) (by omega) (by omega)
 have hlen:=ho.len
 refine Rn.need (by omega) ?_
 refine Rn.bndO (GJ1 (s.drop at1.toNat) (by omega)) (fun a1 ⟨q0,q1⟩=>?_)
 refine Rn.dec (fun hpos=>?_) (fun hpos=>?_)
 ·refine Rn.need (by omega) ?_
  refine Rn.need hl.gnd ?_
  have hw:(List.take a1.toNat (List.drop at1.toNat s)).length=a1.toNat:=by rw [List.length_take];omega
  exact Rn.bndO (yD0 s hs at1 h0 ver n l o true e 8 _ (List.ne_nil_of_length_pos (by omega)) (by omega) hl (ho.mono (by omega))) (yv0 (by omega) (by omega))
 ·refine Rn.nX (by omega) ?_
  refine Rn.dec (fun _=>?_) (fun _=>?_)
  ·refine Rn.need (by omega) ?_
   refine Rn.need hl.gnd ?_
   have hw:(List.take 1 (List.drop at1.toNat s)).length=1:=by rw [List.length_take];omega
   exact Rn.bndO (yD0 s hs at1 h0 ver n l o false e 11 _ (List.ne_nil_of_length_pos (by omega)) (by omega) hl (ho.mono (by omega))) (yv0 (by omega) (by omega))
  ·refine Rn.dec (fun _=>?_) (fun _=>?_)
   ·exact Rn.need hl.gnd (Rn.ret ⟨⟨s,at1,ver,n,l,o,true,12,true⟩,rfl,rfl,rfl,Int.le_refl _,Int.le_of_lt h1,(fun h=>by cases h),hl,ho⟩)
   ·refine Rn.nX (by omega) ?_
    refine Rn.ndec (fun _=>?_) (fun _=>?_)
    ·exact Rn.need hl.gnd (Rn.ret ⟨⟨s,at1,ver,n,l,o,true,12,true⟩,rfl,rfl,rfl,Int.le_refl _,Int.le_of_lt h1,(fun h=>by cases h),hl,ho⟩)
    ·refine Rn.dec (fun _=>?_) (fun _=>?_)
     ·exact Rn.need hl.gnd (Rn.ret ⟨⟨s,at1,ver,n,l,o,true,21,true⟩,rfl,rfl,rfl,Int.le_refl _,Int.le_of_lt h1,(fun h=>by cases h),hl,ho⟩)
     ·have hw:(List.take 2 (List.drop at1.toNat s)).length=2:=by rw [List.length_take];omega
      refine Rn.cond (fun hn=>?_) (fun hn=>?_)
      ·have hop:=(OS.nil h0).push h0
       refine Rn.need ⟨List.cons_ne_nil _ _,by omega,by omega⟩ ?_
       refine Rn.need ⟨rfl,rfl,rfl,hop.gnd⟩ ?_
       refine Rn.need (by omega) ?_
       refine Rn.need hl.gnd ?_
       exact Rn.bndO (yD0 s hs at1 h0 ver n l _ false e 9 _ (List.ne_nil_of_length_pos (by omega)) (by omega) hl (hop.mono (by omega))) (yv0 (by omega) (by omega))
      ·have hop:=ho.push h0
       refine Rn.need ⟨yy0 hn,by omega,by omega⟩ ?_
       refine Rn.need ⟨rfl,List.cons_ne_nil _ _,rfl,Nat.zero_le _,by omega,by omega⟩ ?_
       refine Rn.need ⟨rfl,rfl,by rw [List.length_append];rfl,hop.gnd⟩ ?_
       refine Rn.need (by omega) ?_
       refine Rn.need hl.gnd ?_
       exact Rn.bndO (yD0 s hs at1 h0 ver n l _ false e 9 _ (List.ne_nil_of_length_pos (by omega)) (by omega) hl (hop.mono (by omega))) (yv0 (by omega) (by omega))
def LxZ (s:List UInt8) (at1:Int) (a:Lx):Prop:=LxR s at1 a∨a.z=false∧a.s=s
theorem LxZ.n {s:List UInt8} {at1:Int}:∀ a,LxZ s at1 (nL a)→LxZ s at1 a:=fun ⟨s,at1,ver,n,l,o,i,e,z⟩ h=>by
 cases z with
 | true =>
  rcases h with h | h
  ·exact .inl h
  ·cases h.1
 | false =>
  rcases h with h | h
  ·cases h.1
  ·exact .inr h
theorem QJ0 {s:List UInt8} {at1 at2:Int} {i:Bool} {e:Int} (h1:at1<at2) (h2:at2≤s.length) (a:Lx) (ha:LP s at2 i e a):Rn (fun _=>bif a.z then need none (GndR a.l) (bif a.i then need none (GndR a.l) (some (.ret (.agg [.str a.s,.int .i64 a.at1,.sl 0 a.ver 0 a.n none,.osl 1 a.o,.bool true,.int .i64 a.e]) (hpL a.ver a.l))) else need none (GndR a.l) (some (.ret (.agg [.str a.s,.int .i64 a.at1,.sl 0 a.ver 0 a.n none,.osl 1 a.o,.bool false,.int .i64 a.e]) (hpL a.ver a.l)))) else (bif a.i then (some (.ret (.agg [.str a.s,.int .i64 a.at1,.nils,.osl 1 a.o,.bool true,.int .i64 11]) Heap.empty)) else (some (.ret (.agg [.str a.s,.int .i64 a.at1,.nils,.osl 1 a.o,.bool false,.int .i64 11]) Heap.empty)))) (fun r=>∃ a,r=rLx a∧LxZ s at1 (nL a)):=by
 obtain ⟨s',at',ver,n,l,o,i',e',z⟩:=a
 obtain ⟨p1,p2,p3,p4,p5,p6,p7⟩:=ha
 change z=true at p1
 change s'=s at p2
 change at'=at2 at p3
 subst p1 p2 p3
 refine Rn.need p6.gnd ?_
 refine Rn.cond (fun hi=>?_) (fun hi=>?_)
 ·exact Rn.need p6.gnd (Rn.ret ⟨⟨s',at',ver,n,l,o,true,e',true⟩,rfl,.inl ⟨rfl,rfl,Int.le_of_lt h1,h2,fun _=>h1,p6,p7⟩⟩)
 ·exact Rn.need p6.gnd (Rn.ret ⟨⟨s',at',ver,n,l,o,false,e',true⟩,rfl,.inl ⟨rfl,rfl,Int.le_of_lt h1,h2,fun _=>h1,p6,p7⟩⟩)
theorem Gy1 (s:List UInt8) (hs:s.length≤65536) (at1:Int) (h0:0≤at1) (h1:at1<s.length) (ver n:Nat) (l o:List V) (e:Int) (hl:TS at1 n l) (ho:OS at1 o):Ok1 (fun X=>X.L (.call 14 [.agg [.str s,.int .i64 at1,.sl 0 ver 0 n none,.osl 1 o,.bool false,.int .i64 e]] (hpL ver l))) (LxR s at1):=by
 refine .nrm (R:=rLx) (L:=lL) (N:=nL) (fun _=>rfl) YN0 LxR.n (Tk.by (.of (fun m=>Jn1 (XM m) _ none some s at1 ver n l o e) ?_))
 have hd:=QG0 (s:=s) (n:=at1) (by omega) (by omega)
 have hlen:=ho.len
 refine Rn.need (by omega) ?_
 refine Rn.bndO (Qc1 (s.drop at1.toNat) (by omega) (by omega)) (fun a1 hw=>?_)
 refine Rn.dec (fun _=>?_) (fun hne=>?_)
 ·exact Rn.need hl.gnd (Rn.ret ⟨⟨s,at1,ver,n,l,o,false,11,true⟩,rfl,rfl,rfl,Int.le_refl _,Int.le_of_lt h1,(fun h=>by cases h),hl,ho⟩)
 have hpos:=List.length_pos_iff.2 hne
 refine Rn.nI (by omega) ?_
 refine Rn.joinC (c:=1≤o.length) (fun hk=>?_) (fun j1 hj1=>?_)
 ·refine Rn.need (by omega) ?_
  refine Rn.need hl.gnd ?_
  exact Rn.bndO (yD0 s hs at1 h0 ver n l _ true e 10 _ hne (by omega) hl ((ho.take _).mono (by omega))) (yv0 (by omega) (by omega))
 have key2:∀ j2:Nat→Option Res,Rn j2 (fun r=>∃ a,r=rLx a∧LxR s at1 (nL a))→Rn (fun n=>bif decide (0≤(↑(List.length o):Int)-1) then (bif decide (a1.1=13) then (bif decide (a1.2=[41]) then (nX none ((↑(List.length o):Int)-1) (List.length o) (need none (ldC PP 3 1 (o) (Int.toNat ((↑(List.length o):Int)-1)*1)) (bif decide (gI 1 o (Int.toNat ((↑(List.length o):Int)-1)*1) 0=0) then (j1 n)
  else (j2 n)))) else (j2 n)) else (j2 n)) else (j2 n)) (fun r=>∃ a,r=rLx a∧LxR s at1 (nL a)):=fun j2 hj2=>by
  refine Rn.dec (fun hk=>?_) (fun _=>hj2)
  refine Rn.dec (fun _=>?_) (fun _=>hj2)
  refine Rn.dec (fun _=>?_) (fun _=>hj2)
  refine Rn.nX (by omega) ?_
  obtain ⟨z,hz,z1,z2⟩:=ho.get (i:=((o.length:Int)-1).toNat) (by omega)
  refine Rn.need (QS0 hz).2.1 ?_
  exact Rn.dec (fun _=>hj1 (by omega)) (fun _=>hj2)
 refine Rn.dec (fun _=>?_) (fun _=>?_)
 ·refine Rn.join ?_ (fun j2 hj2=>key2 j2 hj2)
  refine Rn.join ?_ (fun j3 hj3=>?_)
  ·refine Rn.need hl.gnd ?_
   exact Rn.bndO (yD0 s hs at1 h0 ver n l _ true e _ _ hne (by omega) hl (ho.mono (by omega))) (yv0 (by omega) (by omega))
  ·refine Rn.dec (fun hk=>?_) (fun _=>hj3)
   refine Rn.dec (fun _=>?_) (fun _=>hj3)
   refine Rn.joinC (c:=1≤o.length) (fun hk=>?_) (fun j4 hj4=>?_)
   ·refine Rn.need ⟨List.ne_nil_of_length_pos hk,by omega,by omega⟩ ?_
    obtain ⟨z,hz,z1,z2⟩:=ho.get (i:=((o.length:Int)-1).toNat) (by omega)
    obtain ⟨g1,g2,g3⟩:=QS0 hz
    simp only [Nat.zero_add]
    rw [g3,Qq0 hz,Qq0 hz]
    refine Rn.dec (fun _=>?_) (fun _=>?_)
    ·have hop:=ho.set (i:=((o.length:Int)-1).toNat) (by omega) (y:=z+1) (by omega)
     refine Rn.nX (by omega) ?_
     refine Rn.need ⟨trivial,g1⟩ ?_
     refine Rn.nI (by omega) ?_
     refine Rn.nX (by omega) ?_
     refine Rn.need trivial ?_
     refine Rn.need (Qr0 hz) ?_
     refine Rn.need ⟨trivial,trivial,by rw [List.length_set],hop.gnd⟩ ?_
     refine Rn.need hl.gnd ?_
     exact Rn.bndO (yD0 s hs at1 h0 ver n l _ true e _ _ hne (by omega) hl (hop.mono (by omega))) (yv0 (by omega) (by omega))
    ·have hop:=ho.set (i:=((o.length:Int)-1).toNat) (by omega) (y:=z-1) (by omega)
     refine Rn.nX (by omega) ?_
     refine Rn.need ⟨trivial,g1⟩ ?_
     refine Rn.nI (by omega) ?_
     refine Rn.nX (by omega) ?_
     refine Rn.need trivial ?_
     refine Rn.need (Qr0 hz) ?_
     refine Rn.need ⟨trivial,trivial,by rw [List.length_set],hop.gnd⟩ ?_
     refine Rn.need hl.gnd ?_
     exact Rn.bndO (yD0 s hs at1 h0 ver n l _ true e _ _ hne (by omega) hl (hop.mono (by omega))) (yv0 (by omega) (by omega))
   ·refine Rn.dec (fun _=>hj4 (by omega)) (fun _=>?_)
    exact Rn.dec (fun _=>hj4 (by omega)) (fun _=>hj3)
 ·refine Rn.join ?_ (fun j2 hj2=>key2 j2 hj2)
  refine Rn.join ?_ (fun j3 hj3=>?_)
  ·refine Rn.need hl.gnd ?_
   exact Rn.bndO (yD0 s hs at1 h0 ver n l _ false e _ _ hne (by omega) hl (ho.mono (by omega))) (yv0 (by omega) (by omega))
  ·refine Rn.dec (fun hk=>?_) (fun _=>hj3)
   refine Rn.dec (fun _=>?_) (fun _=>hj3)
   refine Rn.joinC (c:=1≤o.length) (fun hk=>?_) (fun j4 hj4=>?_)
   ·refine Rn.need ⟨List.ne_nil_of_length_pos hk,by omega,by omega⟩ ?_
    obtain ⟨z,hz,z1,z2⟩:=ho.get (i:=((o.length:Int)-1).toNat) (by omega)
    obtain ⟨g1,g2,g3⟩:=QS0 hz
    simp only [Nat.zero_add]
    rw [g3,Qq0 hz,Qq0 hz]
    refine Rn.dec (fun _=>?_) (fun _=>?_)
    ·have hop:=ho.set (i:=((o.length:Int)-1).toNat) (by omega) (y:=z+1) (by omega)
     refine Rn.nX (by omega) ?_
     refine Rn.need ⟨trivial,g1⟩ ?_
     refine Rn.nI (by omega) ?_
     refine Rn.nX (by omega) ?_
     refine Rn.need trivial ?_
     refine Rn.need (Qr0 hz) ?_
     refine Rn.need ⟨trivial,trivial,by rw [List.length_set],hop.gnd⟩ ?_
     refine Rn.need hl.gnd ?_
     exact Rn.bndO (yD0 s hs at1 h0 ver n l _ false e _ _ hne (by omega) hl (hop.mono (by omega))) (yv0 (by omega) (by omega))
    ·have hop:=ho.set (i:=((o.length:Int)-1).toNat) (by omega) (y:=z-1) (by omega)
     refine Rn.nX (by omega) ?_
     refine Rn.need ⟨trivial,g1⟩ ?_
     refine Rn.nI (by omega) ?_
     refine Rn.nX (by omega) ?_
     refine Rn.need trivial ?_
     refine Rn.need (Qr0 hz) ?_
     refine Rn.need ⟨trivial,trivial,by rw [List.length_set],hop.gnd⟩ ?_
     refine Rn.need hl.gnd ?_
     exact Rn.bndO (yD0 s hs at1 h0 ver n l _ false e _ _ hne (by omega) hl (hop.mono (by omega))) (yv0 (by omega) (by omega))
   ·refine Rn.dec (fun _=>hj4 (by omega)) (fun _=>?_)
    exact Rn.dec (fun _=>hj4 (by omega)) (fun _=>hj3)
theorem Gx1 (s:List UInt8) (hs:s.length≤65536) (at1:Int) (h0:0≤at1) (h1:at1<s.length) (o:List V) (e:Int) (ho:OS at1 o):Ok1 (fun X=>X.L (.call 14 [.agg [.str s,.int .i64 at1,.nils,.osl 1 o,.bool false,.int .i64 e]] Heap.empty)) (LxZ s at1):=by
 refine .nrm (R:=rLx) (L:=lL) (N:=nL) (fun _=>rfl) YN0 LxZ.n (Tk.by (.of (fun m=>Jm1 (XM m) _ none some s at1 o e) ?_))
 have hd:=QG0 (s:=s) (n:=at1) (by omega) (by omega)
 have hlen:=ho.len
 refine Rn.need (by omega) ?_
 refine Rn.bndO (Qc1 (s.drop at1.toNat) (by omega) (by omega)) (fun a1 hw=>?_)
 refine Rn.dec (fun _=>?_) (fun hne=>?_)
 ·exact Rn.ret ⟨⟨s,at1,0,0,[],o,false,11,false⟩,rfl,.inr ⟨rfl,rfl⟩⟩
 have hpos:=List.length_pos_iff.2 hne
 refine Rn.nI (by omega) ?_
 refine Rn.joinC (c:=1≤o.length) (fun hk=>?_) (fun j1 hj1=>?_)
 ·refine Rn.need (by omega) ?_
  skip
  exact Rn.bndO (QZ0 s hs at1 h0 _ true e 10 _ hne (by omega) ((ho.take _).mono (by omega))) (QJ0 (by omega) (by omega))
 have key2:∀ j2:Nat→Option Res,Rn j2 (fun r=>∃ a,r=rLx a∧LxZ s at1 (nL a))→Rn (fun n=>bif decide (0≤(↑(List.length o):Int)-1) then (bif decide (a1.1=13) then (bif decide (a1.2=[41]) then (nX none ((↑(List.length o):Int)-1) (List.length o) (need none (ldC PP 3 1 (o) (Int.toNat ((↑(List.length o):Int)-1)*1)) (bif decide (gI 1 o (Int.toNat ((↑(List.length o):Int)-1)*1) 0=0) then (j1 n)
  else (j2 n)))) else (j2 n)) else (j2 n)) else (j2 n)) (fun r=>∃ a,r=rLx a∧LxZ s at1 (nL a)):=fun j2 hj2=>by
  refine Rn.dec (fun hk=>?_) (fun _=>hj2)
  refine Rn.dec (fun _=>?_) (fun _=>hj2)
  refine Rn.dec (fun _=>?_) (fun _=>hj2)
  refine Rn.nX (by omega) ?_
  obtain ⟨z,hz,z1,z2⟩:=ho.get (i:=((o.length:Int)-1).toNat) (by omega)
  refine Rn.need (QS0 hz).2.1 ?_
  exact Rn.dec (fun _=>hj1 (by omega)) (fun _=>hj2)
 refine Rn.dec (fun _=>?_) (fun _=>?_)
 ·refine Rn.join ?_ (fun j2 hj2=>key2 j2 hj2)
  refine Rn.join ?_ (fun j3 hj3=>?_)
  ·skip
   exact Rn.bndO (QZ0 s hs at1 h0 _ true e _ _ hne (by omega) (ho.mono (by omega))) (QJ0 (by omega) (by omega))
  ·refine Rn.dec (fun hk=>?_) (fun _=>hj3)
   refine Rn.dec (fun _=>?_) (fun _=>hj3)
   refine Rn.joinC (c:=1≤o.length) (fun hk=>?_) (fun j4 hj4=>?_)
   ·refine Rn.need ⟨List.ne_nil_of_length_pos hk,by omega,by omega⟩ ?_
    obtain ⟨z,hz,z1,z2⟩:=ho.get (i:=((o.length:Int)-1).toNat) (by omega)
    obtain ⟨g1,g2,g3⟩:=QS0 hz
    simp only [Nat.zero_add]
    rw [g3,Qq0 hz,Qq0 hz]
    refine Rn.dec (fun _=>?_) (fun _=>?_)
    ·have hop:=ho.set (i:=((o.length:Int)-1).toNat) (by omega) (y:=z+1) (by omega)
     refine Rn.nX (by omega) ?_
     refine Rn.need ⟨trivial,g1⟩ ?_
     refine Rn.nI (by omega) ?_
     refine Rn.nX (by omega) ?_
     refine Rn.need trivial ?_
     refine Rn.need (Qr0 hz) ?_
     refine Rn.need ⟨trivial,trivial,by rw [List.length_set],hop.gnd⟩ ?_
     skip
     exact Rn.bndO (QZ0 s hs at1 h0 _ true e _ _ hne (by omega) (hop.mono (by omega))) (QJ0 (by omega) (by omega))
    ·have hop:=ho.set (i:=((o.length:Int)-1).toNat) (by omega) (y:=z-1) (by omega)
     refine Rn.nX (by omega) ?_
     refine Rn.need ⟨trivial,g1⟩ ?_
     refine Rn.nI (by omega) ?_
     refine Rn.nX (by omega) ?_
     refine Rn.need trivial ?_
     refine Rn.need (Qr0 hz) ?_
     refine Rn.need ⟨trivial,trivial,by rw [List.length_set],hop.gnd⟩ ?_
     skip
     exact Rn.bndO (QZ0 s hs at1 h0 _ true e _ _ hne (by omega) (hop.mono (by omega))) (QJ0 (by omega) (by omega))
   ·refine Rn.dec (fun _=>hj4 (by omega)) (fun _=>?_)
    exact Rn.dec (fun _=>hj4 (by omega)) (fun _=>hj3)
 ·refine Rn.join ?_ (fun j2 hj2=>key2 j2 hj2)
  refine Rn.join ?_ (fun j3 hj3=>?_)
  ·skip
   exact Rn.bndO (QZ0 s hs at1 h0 _ false e _ _ hne (by omega) (ho.mono (by omega))) (QJ0 (by omega) (by omega))
  ·refine Rn.dec (fun hk=>?_) (fun _=>hj3)
   refine Rn.dec (fun _=>?_) (fun _=>hj3)
   refine Rn.joinC (c:=1≤o.length) (fun hk=>?_) (fun j4 hj4=>?_)
   ·refine Rn.need ⟨List.ne_nil_of_length_pos hk,by omega,by omega⟩ ?_
    obtain ⟨z,hz,z1,z2⟩:=ho.get (i:=((o.length:Int)-1).toNat) (by omega)
    obtain ⟨g1,g2,g3⟩:=QS0 hz
    simp only [Nat.zero_add]
    rw [g3,Qq0 hz,Qq0 hz]
    refine Rn.dec (fun _=>?_) (fun _=>?_)
    ·have hop:=ho.set (i:=((o.length:Int)-1).toNat) (by omega) (y:=z+1) (by omega)
     refine Rn.nX (by omega) ?_
     refine Rn.need ⟨trivial,g1⟩ ?_
     refine Rn.nI (by omega) ?_
     refine Rn.nX (by omega) ?_
     refine Rn.need trivial ?_
     refine Rn.need (Qr0 hz) ?_
     refine Rn.need ⟨trivial,trivial,by rw [List.length_set],hop.gnd⟩ ?_
     skip
     exact Rn.bndO (QZ0 s hs at1 h0 _ false e _ _ hne (by omega) (hop.mono (by omega))) (QJ0 (by omega) (by omega))
    ·have hop:=ho.set (i:=((o.length:Int)-1).toNat) (by omega) (y:=z-1) (by omega)
     refine Rn.nX (by omega) ?_
     refine Rn.need ⟨trivial,g1⟩ ?_
     refine Rn.nI (by omega) ?_
     refine Rn.nX (by omega) ?_
     refine Rn.need trivial ?_
     refine Rn.need (Qr0 hz) ?_
     refine Rn.need ⟨trivial,trivial,by rw [List.length_set],hop.gnd⟩ ?_
     skip
     exact Rn.bndO (QZ0 s hs at1 h0 _ false e _ _ hne (by omega) (hop.mono (by omega))) (QJ0 (by omega) (by omega))
   ·refine Rn.dec (fun _=>hj4 (by omega)) (fun _=>?_)
    exact Rn.dec (fun _=>hj4 (by omega)) (fun _=>hj3)
noncomputable def lJL:Res→Lx
 | .code _ _ h=>(match zs0 (h.get 0) with
  | v::_=>(match v with
   | .agg [a,b,c,d,e,f]=>(match c with
    | .sl _ ver _ n _=>⟨vS a,vI b,ver,n,zs0 (h.get 1),qK0 d,vB e,vI f,false⟩
    | _=>⟨[],0,0,0,[],[],false,0,false⟩)
   | _=>⟨[],0,0,0,[],[],false,0,false⟩)
  | _=>⟨[],0,0,0,[],[],false,0,false⟩)
 | _=>⟨[],0,0,0,[],[],false,0,false⟩
def nJL (a:Lx):Lx:=⟨a.s,a.at1,a.ver,a.n,a.l,a.o,a.i,a.e,false⟩
def LxT (s:List UInt8) (a:Lx):Prop:=a.s=s∧a.at1≤s.length∧TS a.at1 a.n a.l
theorem yb2 (s:List UInt8) (hs:s.length≤65536):∀ (d:Nat) (at1:Int) (ver n:Nat) (l o:List V) (i:Bool) (e:Int),0≤at1→at1≤s.length→TS at1 n l→OS at1 o→2*((s.length:Int)-at1)≤d→(e=0→2*((s.length:Int)-at1)+1≤d)→Ok1 (fun X=>X.JL (.code (.loop (lpB PP 5 0)) ((base 5 52).on [(0,.str s),(6,.ptr 0 0 0)]) (hp [.row 0 46 6 0 (some 1) [.agg [.str s,.int .i64 at1,.sl 1 ver 0 n none,.osl 1 o,.bool i,.int .i64 e]],.row ver 39 2 0 none l]))) (LxT s):=by
 intro d
 induction d with
 | zero =>
  intro at1 ver n l o i e h0 h1 hl ho hd he
  refine .nrm (R:=rJL (base 5 52)) (L:=lJL) (N:=nJL) (fun _=>rfl) (fun a=>by kernel_rfl) (fun a h=>h) (Tk.by (.of (fun m=>yc1 (XM m) _ none some s s at1 ver n l o i e) ?_))
  refine Rn.join ?_ (fun j1 hj1=>?_)
  ·exact Rn.need hl.gnd (Rn.need hl.gnd (Rn.ret ⟨⟨s,at1,ver,n,l,o,i,e,false⟩,rfl,rfl,h1,hl⟩))
  ·refine Rn.dec (fun hlt=>?_) (fun _=>hj1)
   exact Rn.dec (fun h=>absurd (he h) (by omega)) (fun _=>hj1)
 | succ d IH =>
  intro at1 ver n l o i e h0 h1 hl ho hd he
  refine .nrm (R:=rJL (base 5 52)) (L:=lJL) (N:=nJL) (fun _=>rfl) (fun a=>by kernel_rfl) (fun a h=>h) (Tk.by (.of (fun m=>yc1 (XM m) _ none some s s at1 ver n l o i e) ?_))
  refine Rn.join ?_ (fun j1 hj1=>?_)
  ·exact Rn.need hl.gnd (Rn.need hl.gnd (Rn.ret ⟨⟨s,at1,ver,n,l,o,i,e,false⟩,rfl,rfl,h1,hl⟩))
  refine Rn.dec (fun hlt=>?_) (fun _=>hj1)
  refine Rn.dec (fun he0=>?_) (fun _=>hj1)
  have he:=he he0
  have fin2:∀ a,LxT s a→Rn (fun _=>need none (GndR a.l) (some (.code (.exit 0) ((base 5 52).on [(0,.str a.s),(6,.ptr 0 0 0)]) (hp [.row 0 46 6 0 (some 1) [.agg [.str a.s,.int .i64 a.at1,.sl 1 a.ver 0 a.n none,.osl 1 a.o,.bool a.i,.int .i64 a.e]],.row a.ver 39 2 0 none a.l])))) (fun r=>∃ a,r=rJL (base 5 52) a∧LxT s (nJL a)):=fun a ha=>Rn.need ha.2.2.gnd (Rn.ret ⟨a,rfl,ha⟩)
  have go:∀ a,LxR s at1 a→∀ b:Bool,Ok1 (fun X=>X.JL (.code (.loop (lpB PP 5 0)) ((base 5 52).on [(0,.str s),(6,.ptr 0 0 0)]) (hp [.row 0 46 6 0 (some 1) [.agg [.str a.s,.int .i64 a.at1,.sl 1 a.ver 0 a.n none,.osl 1 a.o,.bool b,.int .i64 a.e]],.row a.ver 39 2 0 none a.l]))) (LxT s):=fun a ha b=>by
   obtain ⟨p1,p2,p3,p4,p5,p6,p7⟩:=ha
   rw [p2]
   exact IH a.at1 a.ver a.n a.l a.o b a.e (by omega) p4 p6 p7 (by omega) (fun h=>by have:=p5 h;omega)
  cases i with
  | true =>
   refine Rn.cond (fun _=>?_) (fun h=>by cases h)
   refine Rn.cond (fun _=>?_) (fun h=>by cases h)
   refine Rn.need hl.gnd ?_
   refine Rn.bndO (XC1 s hs at1 h0 hlt ver n l o e hl ho) (fun a ha=>?_)
   refine Rn.cond (fun _=>?_) (fun h=>by rw [ha.1] at h;cases h)
   refine Rn.need ha.2.2.2.2.2.1.gnd ?_
   refine Rn.cond (fun _=>?_) (fun _=>?_)
   ·refine Rn.need ha.2.2.2.2.2.1.gnd ?_
    exact Rn.bndO (go a ha true) fin2
   ·refine Rn.need ha.2.2.2.2.2.1.gnd ?_
    exact Rn.bndO (go a ha false) fin2
  | false =>
   refine Rn.cond (fun h=>by cases h) (fun _=>?_)
   refine Rn.cond (fun h=>by cases h) (fun _=>?_)
   refine Rn.need hl.gnd ?_
   refine Rn.bndO (Gy1 s hs at1 h0 hlt ver n l o e hl ho) (fun a ha=>?_)
   refine Rn.cond (fun _=>?_) (fun h=>by rw [ha.1] at h;cases h)
   refine Rn.need ha.2.2.2.2.2.1.gnd ?_
   refine Rn.cond (fun _=>?_) (fun _=>?_)
   ·refine Rn.need ha.2.2.2.2.2.1.gnd ?_
    exact Rn.bndO (go a ha true) fin2
   ·refine Rn.need ha.2.2.2.2.2.1.gnd ?_
    exact Rn.bndO (go a ha false) fin2
def Tks (es:List V):Prop:=∃ ts:List (Int×List UInt8),es=ts.map qu0∧ts.length≤65536∧∀ t,t∈ts→t.2≠[]∧t.2.length≤65536
theorem Tks.nil:Tks []:=⟨[],rfl,by decide,fun t ht=>by cases ht⟩
noncomputable def lTT:Res→List V×Int×Int
 | .ret v _=>(match v with
  | .tup [a,b,c]=>(qK0 a,vI b,vI c)
  | _=>([],0,0))
 | _=>([],0,0)
theorem QL1 (s:List UInt8) (hs:s.length≤1000000000000):Ok1 (fun X=>X.TT (.call 5 [.str s] Heap.empty)) fun a=>Tks a.1:=by
 refine .tk (R:=rTT) (L:=lTT) (fun _=>rfl) (fun _=>rfl) (Tk.by (.of (fun m=>Jz1 (XM m) _ none some s) ?_))
 refine Rn.dec (fun _=>Rn.ret ⟨(_,_,_),rfl,Tks.nil⟩) (fun hs2=>?_)
 refine Rn.bndO (ZZ1 s hs) (fun c _=>?_)
 refine Rn.dec (fun _=>Rn.ret ⟨(_,_,_),rfl,Tks.nil⟩) (fun _=>?_)
 refine Rn.dec (fun hpos=>?_) (fun _=>Rn.ret ⟨(_,_,_),rfl,Tks.nil⟩)
 refine Rn.bndO (Gx1 s (by omega) 0 (by omega) (by omega) [] 0 (OS.nil (by omega))) (fun a ha=>?_)
 refine Rn.cond (fun hz=>?_) (fun _=>?_)
 ·have ha:LxR s 0 a:=ha.resolve_right fun h=>by rw [h.1] at hz;cases hz
  obtain ⟨p1,p2,p3,p4,p5,p6,p7⟩:=ha
  have fin:∀ b,LxT s b→Rn (fun _=>bif !decide (b.e=0) then (some (.ret (.tup [.osl 2 [],.int .i64 b.e,.int .i64 b.at1]) Heap.empty)) else (bif b.i then (some (.ret (.tup [.osl 2 [],.int .i64 13,.int .i64 (↑(List.length b.s):Int)]) Heap.empty)) else (bif decide (0<(↑(List.length b.o):Int)) then (some (.ret (.tup [.osl 2 [],.int .i64 13,.int .i64 (↑(List.length b.s):Int)]) Heap.empty)) else (nG none b.ver b.n b.l (some (.ret (.tup [.osl 2 b.l,.int .i64 0,.int .i64 0]) Heap.empty)))))) (fun r=>∃ a,r=rTT a∧Tks a.1):=fun b hb=>by
   obtain ⟨_,q2,q3⟩:=hb
   refine Rn.ndec (fun _=>Rn.ret ⟨(_,_,_),rfl,Tks.nil⟩) (fun _=>?_)
   refine Rn.cond (fun _=>Rn.ret ⟨(_,_,_),rfl,Tks.nil⟩) (fun _=>?_)
   refine Rn.dec (fun _=>Rn.ret ⟨(_,_,_),rfl,Tks.nil⟩) (fun _=>?_)
   refine Rn.nG q3.len.1 q3.gnd (Rn.ret ⟨(_,_,_),rfl,?_⟩)
   obtain ⟨ts,t1,t2,t3,t4⟩:=q3
   exact ⟨ts,t1,by omega,t4⟩
  have go:∀ b:Bool,Ok1 (fun X=>X.JL (.code (.loop (lpB PP 5 0)) ((base 5 52).on [(0,.str s),(6,.ptr 0 0 0)]) (hp [.row 0 46 6 0 (some 1) [.agg [.str a.s,.int .i64 a.at1,.sl 1 a.ver 0 a.n none,.osl 1 a.o,.bool b,.int .i64 a.e]],.row a.ver 39 2 0 none a.l]))) (LxT s):=fun b=>by
   rw [p2]
   exact yb2 s (by omega) (2*s.length+1) a.at1 a.ver a.n a.l a.o b a.e p3 p4 p6 p7 (by omega) (by omega)
  refine Rn.need p6.gnd ?_
  refine Rn.cond (fun _=>?_) (fun _=>?_)
  ·refine Rn.need p6.gnd ?_
   exact Rn.bndO (go true) fin
  ·refine Rn.need p6.gnd ?_
   exact Rn.bndO (go false) fin
 ·refine Rn.join ?_ (fun _ hj=>Rn.cond (fun _=>hj) (fun _=>hj))
  exact Rn.dec (fun _=>Rn.ret ⟨(_,_,_),rfl,Tks.nil⟩) (fun _=>Rn.ret ⟨(_,_,_),rfl,Tks.nil⟩)
def GQ (es:List V) (m:Nat) (a:List V×Int×List UInt8):Prop:=a.1=es∧0≤a.2.1∧a.2.2.length≤m
theorem Rn.bndG {es:List V} {m:Nat} {ε:Type} {K:PmX→PR (List V×Int×List UInt8) ε} {f:List V×Int×List UInt8→Nat→Option Res} {g:ε→Nat→Option Res} {Q:Res→Prop} (h:Ok1 K (GQ es m)) (hf:∀ (g:Int) (t:List UInt8),0≤g→t.length≤m→Rn (f (es,g,t)) Q):Rn (fun n=>PR.bnd none (K (XM n)) (fun a=>f a n) (fun e=>g e n)) Q :=
 .bndO h fun ⟨e,g,t⟩ ⟨h1,h2,h3⟩=>by
  change e=es at h1
  subst h1
  exact hf g t h2 h3
theorem Rn.bndN {es:List V} {m:Int} {ε:Type} {K:PmX→PR (List V×Int×Int) ε} {f:List V×Int×Int→Nat→Option Res} {g:ε→Nat→Option Res} {Q:Res→Prop} (h:Ok1 K fun a=>a.1=es∧0≤a.2.1∧0≤a.2.2∧a.2.2<m) (hf:∀ (g:Int) (n:Int),0≤g→0≤n∧n<m→Rn (f (es,g,n)) Q):Rn (fun n=>PR.bnd none (K (XM n)) (fun a=>f a n) (fun e=>g e n)) Q :=
 .bndO h fun ⟨e,g,t⟩ ⟨h1,h2,h3⟩=>by
  change e=es at h1
  subst h1
  exact hf g t h2 h3
noncomputable def lGI:Res→List V×Int×Int
 | .ret v h=>(match dG h with
  | some p=>(p.1,p.2,vI v)
  | none=>([],0,0))
 | _=>([],0,0)
noncomputable def lGS:Res→List V×Int×List UInt8
 | .ret v h=>(match dG h with
  | some p=>(p.1,p.2,vS v)
  | none=>([],0,[]))
 | _=>([],0,[])
def Lit (l:List V):Prop:=∃ ws:List (List UInt8),l=ws.map V.str∧1≤ws.length∧∀ w,w∈ws→w.length≤8
theorem yz0 {l:List V} (h1:(l.map vS).map V.str=l) (h2:1≤l.length) (h3:(l.map vS).all (fun w=>decide (w.length≤8))=true):Lit l:=⟨l.map vS,h1.symm,by rw [List.length_map];exact h2,fun w hw=>of_decide_eq_true (List.all_eq_true.1 h3 w hw)⟩
section c
variable (c:List UInt8) (hc:(c.length:Int)≤9223372036854775807)
 include hc
theorem yb0 (g n:Int) (hg:0≤g) (hn:1≤n):Ok1 (fun X=>X.GI (.call 26 [.ptr 0 0 0,.int .i64 n] (hpG (c.map bV) g))) fun a=>a.1=c.map bV∧0≤a.2.1∧0≤a.2.2∧a.2.2<n:=by
 refine .tk (R:=rGI) (L:=lGI) (fun _=>rfl) (fun a=>by kernel_rfl) (Tk.by (.of (fun m=>Jg1 (XM m) _ none some (c.map bV) g n) ?_))
 rw [List.length_map]
 refine Rn.dec (fun _=>Rn.ret ⟨(_,_,_),rfl,rfl,hg,Int.le_refl _,by show (0:Int)<n;omega⟩) (fun hlt=>?_)
 refine Rn.dec (fun _=>by omega) (fun _=>?_)
 refine Rn.nI (by omega) ?_
 refine Rn.nI (by omega) ?_
 rw [show g+1-1=g by omega]
 obtain ⟨z,hz⟩:∃ b:UInt8,(c.map bV)[g.toNat]?=some (bV b):=⟨_,jn0 (by omega)⟩
 obtain ⟨g1,g2,g3⟩:=ldX_b hz
 refine Rn.nX (by omega) ?_
 refine Rn.need g1 ?_
 rw [g3]
 have hb:=z.toNat_lt
 refine Rn.nI (by omega) ?_
 refine Rn.need (by omega) ?_
 exact Rn.ret ⟨(_,_,_),rfl,rfl,by show 0≤g+1;omega,Int.emod_nonneg _ (by omega),Int.emod_lt_of_pos _ (by omega)⟩
theorem yB0 (g:Int) (l:List V) (k:Nat) (hl:Lit l) (hg:0≤g):Ok1 (fun X=>X.GS (.call 53 [.ptr 0 0 0,.gsl 1 l (some k)] (hpG (c.map bV) g))) (GQ (c.map bV) 8):=by
 obtain ⟨ws,rfl,h1,h2⟩:=hl
 refine .tk (R:=rGS) (L:=lGS) (fun _=>rfl) (fun a=>by kernel_rfl) (Tk.by (.of (fun m=>ev_of (XM m) _ none some (c.map bV) g (ws.map V.str) k) ?_))
 rw [List.length_map]
 refine Rn.bndN (yb0 c hc g ws.length hg (by omega)) (fun g n hg hn=>?_)
 dsimp only
 obtain ⟨g1,g2,g3⟩:=Xn0 (es:=ws.map V.str) (i:=n.toNat) (jn0 (by omega))
 refine Rn.nX (by omega) ?_
 refine Rn.need g2 ?_
 rw [g3]
 exact Rn.ret ⟨(_,_,_),rfl,rfl,hg,h2 _ (List.getElem_mem _)⟩
theorem GB0 (g:Int) (hg:0≤g):Ok1 (fun X=>X.GS (.call 56 [.ptr 0 0 0] (hpG (c.map bV) g))) (GQ (c.map bV) 8):=by
 refine .tk (R:=rGS) (L:=lGS) (fun _=>rfl) (fun a=>by kernel_rfl) (Tk.by (.of (fun m=>Jf1 (XM m) _ none some (c.map bV) g) ?_))
 repeat' (first | refine Rn.dec (fun _=>?_) (fun _=>?_) | refine Rn.nI (by (try simp only [List.length_append,List.length_cons,List.length_nil]);omega) ?_ | refine Rn.need (by (try simp only [List.length_append,List.length_cons,List.length_nil]);omega) ?_ | refine Rn.join ?_ (fun _ hj=>?_) | assumption | ((with_reducible refine Rn.bndN (yb0 c hc _ _ ?_ ?_) (fun g n hg hn=>?_)) <;> try dsimp only) | ((with_reducible refine Rn.bndG (yB0 c hc _ _ _ ?_ ?_) (fun g t hg ht=>?_)) <;> try dsimp only) | exact yz0 rfl (by decide) (by decide) | omega | exact Rn.ret ⟨(_,_,_),rfl,rfl,by assumption,(by (try simp only [List.length_append,List.length_cons,List.length_nil]);omega)⟩)
theorem GN0 (g:Int) (hg:0≤g):Ok1 (fun X=>X.GS (.call 57 [.ptr 0 0 0] (hpG (c.map bV) g))) (GQ (c.map bV) 8):=by
 refine .tk (R:=rGS) (L:=lGS) (fun _=>rfl) (fun a=>by kernel_rfl) (Tk.by (.of (fun m=>Jo1 (XM m) _ none some (c.map bV) g) ?_))
 repeat' (first | refine Rn.dec (fun _=>?_) (fun _=>?_) | refine Rn.nI (by (try simp only [List.length_append,List.length_cons,List.length_nil]);omega) ?_ | refine Rn.need (by (try simp only [List.length_append,List.length_cons,List.length_nil]);omega) ?_ | refine Rn.join ?_ (fun _ hj=>?_) | assumption | ((with_reducible refine Rn.bndN (yb0 c hc _ _ ?_ ?_) (fun g n hg hn=>?_)) <;> try dsimp only) | ((with_reducible refine Rn.bndG (yB0 c hc _ _ _ ?_ ?_) (fun g t hg ht=>?_)) <;> try dsimp only) | exact yz0 rfl (by decide) (by decide) | omega | exact Rn.ret ⟨(_,_,_),rfl,rfl,by assumption,(by (try simp only [List.length_append,List.length_cons,List.length_nil]);omega)⟩)
theorem Zl1 (d:Int) (m:Nat) (hm:m≤10000000) (hP:∀ g,0≤g→Ok1 (fun X=>X.GS (.call 27 [.ptr 0 0 0,.int .i64 d] (hpG (c.map bV) g))) (GQ (c.map bV) m)) (g:Int) (hg:0≤g):Ok1 (fun X=>X.GS (.call 95 [.ptr 0 0 0,.int .i64 d] (hpG (c.map bV) g))) (GQ (c.map bV) (2*m+4)):=by
 refine .tk (R:=rGS) (L:=lGS) (fun _=>rfl) (fun a=>by kernel_rfl) (Tk.by (.of (fun m=>YT1 (XM m) _ none some (c.map bV) g d) ?_))
 repeat' (first | refine Rn.dec (fun _=>?_) (fun _=>?_) | refine Rn.nI (by (try simp only [List.length_append,List.length_cons,List.length_nil]);omega) ?_ | refine Rn.need (by (try simp only [List.length_append,List.length_cons,List.length_nil]);omega) ?_ | refine Rn.join ?_ (fun _ hj=>?_) | assumption | ((with_reducible refine Rn.bndN (yb0 c hc _ _ ?_ ?_) (fun g n hg hn=>?_)) <;> try dsimp only) | ((with_reducible refine Rn.bndG (yB0 c hc _ _ _ ?_ ?_) (fun g t hg ht=>?_)) <;> try dsimp only) | exact yz0 rfl (by decide) (by decide) | omega | ((with_reducible refine Rn.bndG (hP _ ?_) (fun g t hg ht=>?_)) <;> try dsimp only) | exact Rn.ret ⟨(_,_,_),rfl,rfl,by assumption,(by (try simp only [List.length_append,List.length_cons,List.length_nil]);omega)⟩)
theorem jJ1 (d:Int) (m:Nat) (hm:m≤10000000) (hd:-1000≤d∧d≤1000) (hP:∀ g,0≤g→Ok1 (fun X=>X.GS (.call 27 [.ptr 0 0 0,.int .i64 (d-1)] (hpG (c.map bV) g))) (GQ (c.map bV) m)) (g:Int) (hg:0≤g):Ok1 (fun X=>X.GS (.call 55 [.ptr 0 0 0,.int .i64 d] (hpG (c.map bV) g))) (GQ (c.map bV) (m+50)):=by
 refine .tk (R:=rGS) (L:=lGS) (fun _=>rfl) (fun a=>by kernel_rfl) (Tk.by (.of (fun m=>Jq1 (XM m) _ none some (c.map bV) g d) ?_))
 repeat' (first | refine Rn.dec (fun _=>?_) (fun _=>?_) | refine Rn.nI (by (try simp only [List.length_append,List.length_cons,List.length_nil]);omega) ?_ | refine Rn.need (by (try simp only [List.length_append,List.length_cons,List.length_nil]);omega) ?_ | refine Rn.join ?_ (fun _ hj=>?_) | assumption | ((with_reducible refine Rn.bndN (yb0 c hc _ _ ?_ ?_) (fun g n hg hn=>?_)) <;> try dsimp only) | ((with_reducible refine Rn.bndG (yB0 c hc _ _ _ ?_ ?_) (fun g t hg ht=>?_)) <;> try dsimp only) | exact yz0 rfl (by decide) (by decide) | omega | ((with_reducible refine Rn.bndG (GB0 c hc _ ?_) (fun g t hg ht=>?_)) <;> try dsimp only) | ((with_reducible refine Rn.bndG (GN0 c hc _ ?_) (fun g t hg ht=>?_)) <;> try dsimp only) | ((with_reducible refine Rn.bndG (hP _ ?_) (fun g t hg ht=>?_)) <;> try dsimp only) | exact Rn.ret ⟨(_,_,_),rfl,rfl,by assumption,(by (try simp only [List.length_append,List.length_cons,List.length_nil]);omega)⟩)
end c
noncomputable def lOb (r:Res):List V×Int×Int×List UInt8:=match r with
 | .code _ _ h=>(match dG h with
  | some p=>(p.1,p.2,vI (slt r 1),vS (slt r 5))
  | none=>([],0,0,[]))
 | _=>([],0,0,[])
def OQ (es:List V) (m:Nat) (a:List V×Int×Int×List UInt8):Prop:=a.1=es∧0≤a.2.1∧a.2.2.2.length≤m
section c
variable (c:List UInt8) (hc:(c.length:Int)≤9223372036854775807)
 include hc
theorem Gg1 (d:Int) (m:Nat) (hm:m≤10000000) (hP:∀ g,0≤g→Ok1 (fun X=>X.GS (.call 27 [.ptr 0 0 0,.int .i64 d] (hpG (c.map bV) g))) (GQ (c.map bV) m)) (hQ:∀ g,0≤g→Ok1 (fun X=>X.GS (.call 54 [.ptr 0 0 0,.int .i64 d] (hpG (c.map bV) g))) (GQ (c.map bV) m)) (n:Int) (hn:n≤2):∀ (k:Nat) (i g:Int) (w:List UInt8),0≤i→n+1-i≤k→0≤g→w.length+k*(20+2*m)≤200000000→Ok1 (fun X=>X.Ob (.code (.loop (lpB PP 94 0)) ((base 94 40).on [(0,.ptr 0 0 0),(1,.int .i64 d),(5,.str w),(6,.int .i64 n),(7,.int .i64 i)]) (hpG (c.map bV) g))) (OQ (c.map bV) (w.length+k*(20+2*m))):=by
 intro k
 induction k with
 | zero =>
  intro i g w hi hk hg hw
  refine .tk (R:=rOb (base 94 40)) (L:=lOb) (fun _=>rfl) (fun a=>by kernel_rfl) (Tk.by (.of (fun m=>zU1 (XM m) _ none some (c.map bV) g d w n i) ?_))
  refine Rn.dec (fun h=>by omega) (fun _=>?_)
  exact Rn.ret ⟨(_,_,_,_),rfl,rfl,hg,by show w.length≤_;omega⟩
 | succ k IH =>
  intro i g w hi hk hg hw
  rw [Nat.add_mul] at hw
  have fin:∀ (w2:List UInt8),w2.length≤w.length+(20+2*m)→∀ a,OQ (c.map bV) (w2.length+k*(20+2*m)) a→Rn (fun _=>some (.code (.exit 0) ((base 94 40).on [(0,.ptr 0 0 0),(1,.int .i64 a.2.2.1),(5,.str a.2.2.2)]) (hpG a.1 a.2.1))) (fun r=>∃ a,r=rOb (base 94 40) a∧OQ (c.map bV) (w.length+(k+1)*(20+2*m)) a):=fun w2 h2 ⟨a1,a2,a3,a4⟩ ⟨p1,p2,p3⟩=>Rn.ret ⟨(_,_,_,_),rfl,p1,p2,by rw [Nat.add_mul];show a4.length≤_;have:a4.length≤_:=p3;omega⟩
  refine .tk (R:=rOb (base 94 40)) (L:=lOb) (fun _=>rfl) (fun a=>by kernel_rfl) (Tk.by (.of (fun m=>zU1 (XM m) _ none some (c.map bV) g d w n i) ?_))
  refine Rn.dec (fun _=>?_) (fun _=>Rn.ret ⟨(_,_,_,_),rfl,rfl,hg,by show w.length≤_;omega⟩)
  refine Rn.dec (fun _=>?_) (fun _=>?_)
  ·repeat' (first | refine Rn.dec (fun _=>?_) (fun _=>?_) | refine Rn.nI (by (try simp only [List.length_append,List.length_cons,List.length_nil]);omega) ?_ | refine Rn.need (by (try simp only [List.length_append,List.length_cons,List.length_nil]);omega) ?_ | refine Rn.join ?_ (fun _ hj=>?_) | assumption | ((with_reducible refine Rn.bndN (yb0 c hc _ _ ?_ ?_) (fun g n hg hn=>?_)) <;> try dsimp only) | ((with_reducible refine Rn.bndG (yB0 c hc _ _ _ ?_ ?_) (fun g t hg ht=>?_)) <;> try dsimp only) | exact yz0 rfl (by decide) (by decide) | omega | ((with_reducible refine Rn.bndG (hP _ ?_) (fun g t hg ht=>?_)) <;> try dsimp only) | ((with_reducible refine Rn.bndG (hQ _ ?_) (fun g t hg ht=>?_)) <;> try dsimp only) | (with_reducible refine Rn.bndO (IH (i+1) _ _ ?_ ?_ ?_ ?_) (fin _ ?_)) | (simp only [List.length_append,List.length_cons,List.length_nil];omega))
  ·repeat' (first | refine Rn.dec (fun _=>?_) (fun _=>?_) | refine Rn.nI (by (try simp only [List.length_append,List.length_cons,List.length_nil]);omega) ?_ | refine Rn.need (by (try simp only [List.length_append,List.length_cons,List.length_nil]);omega) ?_ | refine Rn.join ?_ (fun _ hj=>?_) | assumption | ((with_reducible refine Rn.bndN (yb0 c hc _ _ ?_ ?_) (fun g n hg hn=>?_)) <;> try dsimp only) | ((with_reducible refine Rn.bndG (yB0 c hc _ _ _ ?_ ?_) (fun g t hg ht=>?_)) <;> try dsimp only) | exact yz0 rfl (by decide) (by decide) | omega | ((with_reducible refine Rn.bndG (hP _ ?_) (fun g t hg ht=>?_)) <;> try dsimp only) | ((with_reducible refine Rn.bndG (hQ _ ?_) (fun g t hg ht=>?_)) <;> try dsimp only) | (with_reducible refine Rn.bndO (IH (i+1) _ _ ?_ ?_ ?_ ?_) (fin _ ?_)) | (simp only [List.length_append,List.length_cons,List.length_nil];omega))
theorem Gh1 (d:Int) (m:Nat) (hm:m≤10000000) (hP:∀ g,0≤g→Ok1 (fun X=>X.GS (.call 27 [.ptr 0 0 0,.int .i64 d] (hpG (c.map bV) g))) (GQ (c.map bV) m)) (hQ:∀ g,0≤g→Ok1 (fun X=>X.GS (.call 54 [.ptr 0 0 0,.int .i64 d] (hpG (c.map bV) g))) (GQ (c.map bV) m)) (g:Int) (hg:0≤g):Ok1 (fun X=>X.GS (.call 94 [.ptr 0 0 0,.int .i64 d] (hpG (c.map bV) g))) (GQ (c.map bV) (6*m+70)):=by
 refine .tk (R:=rGS) (L:=lGS) (fun _=>rfl) (fun a=>by kernel_rfl) (Tk.by (.of (fun m=>Jj1 (XM m) _ none some (c.map bV) g d) ?_))
 refine Rn.bndN (yb0 c hc g 3 hg (by omega)) (fun g n hg hn=>?_)
 dsimp only
 refine Rn.bndO (Gg1 c hc d m hm hP hQ n (by omega) 3 0 g _ (by omega) (by omega) hg (by simp only [List.length_cons,List.length_nil];omega)) (fun ⟨a1,a2,a3,a4⟩ ⟨p1,p2,p3⟩=>?_)
 dsimp only
 have p3:a4.length≤1+3*(20+2*m):=p3
 refine Rn.need (by omega) ?_
 exact Rn.ret ⟨(_,_,_),rfl,p1,p2,(by (try simp only [List.length_append,List.length_cons,List.length_nil]);omega)⟩
theorem GK1 (d:Int) (m:Nat) (hm:m≤1000000) (h8:8≤m) (hd:-900≤d∧d≤900) (hP:∀ g,0≤g→Ok1 (fun X=>X.GS (.call 27 [.ptr 0 0 0,.int .i64 (d-1)] (hpG (c.map bV) g))) (GQ (c.map bV) m)) (hP2:∀ g,0≤g→Ok1 (fun X=>X.GS (.call 27 [.ptr 0 0 0,.int .i64 (d-1-1)] (hpG (c.map bV) g))) (GQ (c.map bV) m)) (hQ:∀ g,0≤g→Ok1 (fun X=>X.GS (.call 54 [.ptr 0 0 0,.int .i64 (d-1)] (hpG (c.map bV) g))) (GQ (c.map bV) m)) (g:Int) (hg:0≤g):Ok1 (fun X=>X.GS (.call 27 [.ptr 0 0 0,.int .i64 d] (hpG (c.map bV) g))) (GQ (c.map bV) (10*m+200)):=by
 have hT:=jJ1 c hc (d-1) m (by omega) (by omega) hP2
 refine .tk (R:=rGS) (L:=lGS) (fun _=>rfl) (fun a=>by kernel_rfl) (Tk.by (.of (fun m=>zZ1 (XM m) _ none some (c.map bV) g d) ?_))
 repeat' (first | refine Rn.dec (fun _=>?_) (fun _=>?_) | refine Rn.nI (by (try simp only [List.length_append,List.length_cons,List.length_nil]);omega) ?_ | refine Rn.need (by (try simp only [List.length_append,List.length_cons,List.length_nil]);omega) ?_ | refine Rn.join ?_ (fun _ hj=>?_) | assumption | ((with_reducible refine Rn.bndN (yb0 c hc _ _ ?_ ?_) (fun g n hg hn=>?_)) <;> try dsimp only) | ((with_reducible refine Rn.bndG (yB0 c hc _ _ _ ?_ ?_) (fun g t hg ht=>?_)) <;> try dsimp only) | exact yz0 rfl (by decide) (by decide) | omega | ((with_reducible refine Rn.bndG (GB0 c hc _ ?_) (fun g t hg ht=>?_)) <;> try dsimp only) | ((with_reducible refine Rn.bndG (GN0 c hc _ ?_) (fun g t hg ht=>?_)) <;> try dsimp only) | ((with_reducible refine Rn.bndG (hP _ ?_) (fun g t hg ht=>?_)) <;> try dsimp only) | ((with_reducible refine Rn.bndG (hQ _ ?_) (fun g t hg ht=>?_)) <;> try dsimp only) | ((with_reducible refine Rn.bndG (hT _ ?_) (fun g t hg ht=>?_)) <;> try dsimp only) | exact Rn.ret ⟨(_,_,_),rfl,rfl,by assumption,(by (try simp only [List.length_append,List.length_cons,List.length_nil]);omega)⟩)
theorem GP1 (d:Int) (m:Nat) (hm:m≤1000000) (h8:8≤m) (hd:-900≤d∧d≤900) (hP:∀ g,0≤g→Ok1 (fun X=>X.GS (.call 27 [.ptr 0 0 0,.int .i64 (d-1)] (hpG (c.map bV) g))) (GQ (c.map bV) m)) (hP2:∀ g,0≤g→Ok1 (fun X=>X.GS (.call 27 [.ptr 0 0 0,.int .i64 (d-1-1)] (hpG (c.map bV) g))) (GQ (c.map bV) m)) (hQ:∀ g,0≤g→Ok1 (fun X=>X.GS (.call 54 [.ptr 0 0 0,.int .i64 (d-1)] (hpG (c.map bV) g))) (GQ (c.map bV) m)) (g:Int) (hg:0≤g):Ok1 (fun X=>X.GS (.call 54 [.ptr 0 0 0,.int .i64 d] (hpG (c.map bV) g))) (GQ (c.map bV) (10*m+200)):=by
 have hT:=jJ1 c hc (d-1) m (by omega) (by omega) hP2
 have hA:=Zl1 c hc (d-1) m (by omega) hP
 have hO:=Gh1 c hc (d-1) m (by omega) hP hQ
 refine .tk (R:=rGS) (L:=lGS) (fun _=>rfl) (fun a=>by kernel_rfl) (Tk.by (.of (fun m=>ya1 (XM m) _ none some (c.map bV) g d) ?_))
 repeat' (first | refine Rn.dec (fun _=>?_) (fun _=>?_) | refine Rn.nI (by (try simp only [List.length_append,List.length_cons,List.length_nil]);omega) ?_ | refine Rn.need (by (try simp only [List.length_append,List.length_cons,List.length_nil]);omega) ?_ | refine Rn.join ?_ (fun _ hj=>?_) | assumption | ((with_reducible refine Rn.bndN (yb0 c hc _ _ ?_ ?_) (fun g n hg hn=>?_)) <;> try dsimp only) | ((with_reducible refine Rn.bndG (yB0 c hc _ _ _ ?_ ?_) (fun g t hg ht=>?_)) <;> try dsimp only) | exact yz0 rfl (by decide) (by decide) | omega | ((with_reducible refine Rn.bndG (GB0 c hc _ ?_) (fun g t hg ht=>?_)) <;> try dsimp only) | ((with_reducible refine Rn.bndG (GN0 c hc _ ?_) (fun g t hg ht=>?_)) <;> try dsimp only) | ((with_reducible refine Rn.bndG (hP _ ?_) (fun g t hg ht=>?_)) <;> try dsimp only) | ((with_reducible refine Rn.bndG (hQ _ ?_) (fun g t hg ht=>?_)) <;> try dsimp only) | ((with_reducible refine Rn.bndG (hT _ ?_) (fun g t hg ht=>?_)) <;> try dsimp only) | ((with_reducible refine Rn.bndG (hA _ ?_) (fun g t hg ht=>?_)) <;> try dsimp only) | ((with_reducible refine Rn.bndG (hO _ ?_) (fun g t hg ht=>?_)) <;> try dsimp only) | exact Rn.ret ⟨(_,_,_),rfl,rfl,by assumption,(by (try simp only [List.length_append,List.length_cons,List.length_nil]);omega)⟩)
end c
def bdM:Nat→Nat
 | 0=>8
 | n+1=>10*bdM n+200
theorem bdM_4:∀ n,n≤4→bdM n≤1000000:=by decide
theorem qN1:∀ n,n≤5→8≤bdM n:=by decide
theorem GQ.weak {es:List V} {m m':Nat} {K:PmX→PR (List V×Int×List UInt8) Int} (h:Ok1 K (GQ es m)) (hm:m≤m'):Ok1 K (GQ es m'):=h.weak fun _ ⟨a,b,c⟩=>⟨a,b,Nat.le_trans c hm⟩
section c
variable (c:List UInt8) (hc:(c.length:Int)≤9223372036854775807)
 include hc
theorem pipe_0 (d:Int) (h0:d≤0) (g:Int) (hg:0≤g):Ok1 (fun X=>X.GS (.call 27 [.ptr 0 0 0,.int .i64 d] (hpG (c.map bV) g))) (GQ (c.map bV) 8):=by
 refine .tk (R:=rGS) (L:=lGS) (fun _=>rfl) (fun a=>by kernel_rfl) (Tk.by (.of (fun m=>zZ1 (XM m) _ none some (c.map bV) g d) ?_))
 refine Rn.join ?_ (fun j1 hj1=>Rn.dec (fun _=>hj1) (fun h=>absurd h0 h))
 repeat' (first | refine Rn.dec (fun _=>?_) (fun _=>?_) | refine Rn.nI (by (try simp only [List.length_append,List.length_cons,List.length_nil]);omega) ?_ | refine Rn.need (by (try simp only [List.length_append,List.length_cons,List.length_nil]);omega) ?_ | refine Rn.join ?_ (fun _ hj=>?_) | assumption | ((with_reducible refine Rn.bndN (yb0 c hc _ _ ?_ ?_) (fun g n hg hn=>?_)) <;> try dsimp only) | ((with_reducible refine Rn.bndG (yB0 c hc _ _ _ ?_ ?_) (fun g t hg ht=>?_)) <;> try dsimp only) | exact yz0 rfl (by decide) (by decide) | omega | exact Rn.ret ⟨(_,_,_),rfl,rfl,by assumption,(by (try simp only [List.length_append,List.length_cons,List.length_nil]);omega)⟩)
theorem post_0 (d:Int) (h0:d≤0) (g:Int) (hg:0≤g):Ok1 (fun X=>X.GS (.call 54 [.ptr 0 0 0,.int .i64 d] (hpG (c.map bV) g))) (GQ (c.map bV) 8):=by
 refine .tk (R:=rGS) (L:=lGS) (fun _=>rfl) (fun a=>by kernel_rfl) (Tk.by (.of (fun m=>ya1 (XM m) _ none some (c.map bV) g d) ?_))
 refine Rn.dec (fun _=>?_) (fun h=>absurd h0 h)
 repeat' (first | refine Rn.dec (fun _=>?_) (fun _=>?_) | refine Rn.nI (by (try simp only [List.length_append,List.length_cons,List.length_nil]);omega) ?_ | refine Rn.need (by (try simp only [List.length_append,List.length_cons,List.length_nil]);omega) ?_ | refine Rn.join ?_ (fun _ hj=>?_) | assumption | ((with_reducible refine Rn.bndN (yb0 c hc _ _ ?_ ?_) (fun g n hg hn=>?_)) <;> try dsimp only) | ((with_reducible refine Rn.bndG (yB0 c hc _ _ _ ?_ ?_) (fun g t hg ht=>?_)) <;> try dsimp only) | exact yz0 rfl (by decide) (by decide) | omega | exact Rn.ret ⟨(_,_,_),rfl,rfl,by assumption,(by (try simp only [List.length_append,List.length_cons,List.length_nil]);omega)⟩)
theorem made:∀ (n:Nat),n≤5→∀ (d:Int),d≤(n:Int)→3*(n:Int)-100≤d→∀ g,0≤g→Ok1 (fun X=>X.GS (.call 27 [.ptr 0 0 0,.int .i64 d] (hpG (c.map bV) g))) (GQ (c.map bV) (bdM n))∧Ok1 (fun X=>X.GS (.call 54 [.ptr 0 0 0,.int .i64 d] (hpG (c.map bV) g))) (GQ (c.map bV) (bdM n)):=by
 intro n
 induction n with
 | zero=>intro _ d h1 h2 g hg;exact ⟨pipe_0 c hc d h1 g hg,post_0 c hc d h1 g hg⟩
 | succ n IH =>
  intro hn d h1 h2 g hg
  have I1:=IH (by omega) (d-1) (by omega) (by omega)
  have I2:=IH (by omega) (d-1-1) (by omega) (by omega)
  exact ⟨GK1 c hc d (bdM n) (bdM_4 n (by omega)) (qN1 n (by omega)) (by omega) (fun g hg=>(I1 g hg).1) (fun g hg=>(I2 g hg).1) (fun g hg=>(I1 g hg).2) g hg,
   GP1 c hc d (bdM n) (bdM_4 n (by omega)) (qN1 n (by omega)) (by omega) (fun g hg=>(I1 g hg).1) (fun g hg=>(I2 g hg).1) (fun g hg=>(I1 g hg).2) g hg⟩
theorem zt2:Ok1 (fun X=>X.W (.call 15 [.osl 1 (c.map bV)] Heap.empty)) fun a=>a.length≤20000000:=by
 refine .tk (R:=rW) (L:=lW) (fun _=>rfl) (fun a=>rfl) (Tk.by (.of (fun m=>Jy1 (XM m) _ none some (c.map bV)) ?_))
 have h5:∀ g,0≤g→Ok1 (fun X=>X.GS (.call 27 [.ptr 0 0 0,.int .i64 5] (hpG (c.map bV) g))) (GQ (c.map bV) 4000000):=fun g hg=>GQ.weak (made c hc 5 (Nat.le_refl _) 5 (by omega) (by omega) g hg).1 (by decide)
 have h3:∀ g,0≤g→Ok1 (fun X=>X.GS (.call 27 [.ptr 0 0 0,.int .i64 3] (hpG (c.map bV) g))) (GQ (c.map bV) 4000000):=fun g hg=>GQ.weak (made c hc 5 (Nat.le_refl _) 3 (by omega) (by omega) g hg).1 (by decide)
 repeat' (first | refine Rn.dec (fun _=>?_) (fun _=>?_) | refine Rn.nI (by (try simp only [List.length_append,List.length_cons,List.length_nil]);omega) ?_ | refine Rn.need (by (try simp only [List.length_append,List.length_cons,List.length_nil]);omega) ?_ | refine Rn.join ?_ (fun _ hj=>?_) | assumption | ((with_reducible refine Rn.bndN (yb0 c hc _ _ ?_ ?_) (fun g n hg hn=>?_)) <;> try dsimp only) | ((with_reducible refine Rn.bndG (yB0 c hc _ _ _ ?_ ?_) (fun g t hg ht=>?_)) <;> try dsimp only) | exact yz0 rfl (by decide) (by decide) | omega | ((with_reducible refine Rn.bndG (h5 _ ?_) (fun g t hg ht=>?_)) <;> try dsimp only) | ((with_reducible refine Rn.bndG (h3 _ ?_) (fun g t hg ht=>?_)) <;> try dsimp only) | exact Rn.ret ⟨_,rfl,(by (try simp only [List.length_append,List.length_cons,List.length_nil]);omega)⟩)
theorem zg2:Ok1 (fun X=>X.E (.call 16 [.osl 1 (c.map bV)] Heap.empty)) fun a=>∃ c':List UInt8,a=c'.map bV∧c'.length≤60:=by
 refine .tk (R:=rEm) (L:=lE 1) (fun _=>rfl) (fun a=>rfl) (Tk.by (.of (fun m=>Jw1 (XM m) _ none some (c.map bV)) ?_))
 rw [List.length_map]
 refine Rn.need (by omega) ?_
 exact Rn.ret ⟨_,rfl,c.take (Int.toNat (min (c.length:Int) 60)),by rw [List.map_take],by rw [List.length_take];omega⟩
end c
def IS (b:Int) (n:Nat) (l:List V):Prop:=∃ its:List It,l=its.map itV∧n=its.length∧(its.length:Int)≤b∧∀ x,x∈its→x.w≠[]∧x.w.length≤65536∧∃ ws:List (List UInt8),x.ns=ws.map V.str∧(ws.length:Int)≤b
def SS (b:Int) (n:Nat) (l:List V):Prop:=∃ ws:List (List UInt8),l=ws.map V.str∧n=ws.length∧(ws.length:Int)≤b
theorem IS.gnd {b:Int} {n:Nat} {l:List V} (h:IS b n l):GndR l:=by obtain ⟨ts,rfl,_⟩:=h;exact gnd_it ts
theorem SS.gnd {b:Int} {n:Nat} {l:List V} (h:SS b n l):GndR l:=by obtain ⟨ts,rfl,_⟩:=h;exact jX0 ts
theorem IS.len {b:Int} {n:Nat} {l:List V} (h:IS b n l):n=l.length∧(n:Int)≤b:=by obtain ⟨ts,rfl,rfl,h,_⟩:=h;exact ⟨by rw [List.length_map],h⟩
theorem SS.len {b:Int} {n:Nat} {l:List V} (h:SS b n l):n=l.length∧(n:Int)≤b:=by obtain ⟨ts,rfl,rfl,h⟩:=h;exact ⟨by rw [List.length_map],h⟩
theorem SS.mono {a b:Int} {n:Nat} {l:List V} (h:SS a n l) (hab:a≤b):SS b n l:=by obtain ⟨ts,h1,h2,h3⟩:=h;exact ⟨ts,h1,h2,by omega⟩
theorem IS.mono {a b:Int} {n:Nat} {l:List V} (h:IS a n l) (hab:a≤b):IS b n l:=by
 obtain ⟨ts,h1,h2,h3,h4⟩:=h
 exact ⟨ts,h1,h2,by omega,fun x hx=>by obtain ⟨p,q,ws,r,s⟩:=h4 x hx;exact ⟨p,q,ws,r,by omega⟩⟩
theorem SS.push {b:Int} {n:Nat} {l:List V} (h:SS b n l) (w:List UInt8):SS (b+1) (n+1) (l++[V.str w]):=by
 obtain ⟨ts,rfl,rfl,h3⟩:=h
 exact ⟨ts++[w],by rw [List.map_append];rfl,by simp,by simp;omega⟩
theorem SS.one {b:Int} (hb:0≤b) (w:List UInt8):SS (b+1) 1 [V.str w]:=⟨[w],rfl,rfl,by simp;omega⟩
theorem IS.push {b:Int} {n:Nat} {l:List V} (h:IS b n l) (hb:0≤b) (k:Int) {w:List UInt8} (hw:w≠[]∧w.length≤65536) (g:Int):IS (b+1) (n+1) (l++[V.agg [V.int IntKind.i64 k,V.str w,V.int IntKind.i64 g,V.osl 1 []]]):=by
 obtain ⟨ts,rfl,rfl,h3,h4⟩:=h
 refine ⟨ts++[⟨k,w,g,[]⟩],by rw [List.map_append];rfl,by simp,by simp;omega,fun x hx=>?_⟩
 rcases List.mem_append.1 hx with h | h
 ·obtain ⟨p,q,ws,r,s⟩:=h4 x h;exact ⟨p,q,ws,r,by omega⟩
 ·rw [List.mem_singleton] at h;rw [h];exact ⟨hw.1,hw.2,[],rfl,by simp;omega⟩
theorem IS.nil {b:Int} (hb:0≤b):IS b 0 []:=⟨[],rfl,rfl,hb,fun x hx=>by cases hx⟩
theorem IS.one {b:Int} (hb:0≤b) (k:Int) {w:List UInt8} (hw:w≠[]∧w.length≤65536) (g:Int):IS (b+1) 1 [V.agg [V.int IntKind.i64 k,V.str w,V.int IntKind.i64 g,V.osl 1 []]]:=(IS.nil hb).push hb k hw g
theorem qZ2 {its:List It} {k:Nat} (hk:k<its.length) (y:It):List.setN (itV y) (its.map itV) k=(its.set k y).map itV:=by rw [List.setN_eq,List.map_set]
theorem IS.note {b:Int} {n:Nat} {l:List V} (h:IS b n l) (hn:1≤n):∃ ws:List (List UInt8),gE 4 l (Int.toNat ((n:Int)-1)*4+3) 0=ws.map V.str∧(ws.length:Int)≤b∧ldX PP 28 4 l (Int.toNat ((n:Int)-1)*4+3)∧∀ ws':List (List UInt8),(ws'.length:Int)≤b+1→stX PP 28 (.osl 1 (ws'.map V.str)) 0 4 l (Int.toNat ((n:Int)-1)*4+3)∧IS (b+1) n (qT0 4 l (Int.toNat ((n:Int)-1)*4+3) (.osl 1 (ws'.map V.str))):=by
 obtain ⟨ts,rfl,rfl,h3,h4⟩:=h
 obtain ⟨k,hk,e⟩:∃ k,k<ts.length∧Int.toNat ((ts.length:Int)-1)=k:=⟨ts.length-1,by omega,by omega⟩
 rw [e]
 have hx:=jn0 (f:=itV) hk
 obtain ⟨p,q,ws,r,s⟩:=h4 _ (List.getElem_mem hk)
 have hg:gE 4 (ts.map itV) (k*4+3) 0=ts[k].ns:=by unfold gE;rw [zK0 (by omega) hx];rfl
 have h1:(k*4+3)/4=k:=by omega
 have h2:(k*4+3)%4=3:=by omega
 have hgd:(ts.map itV).getD k undef=itV ts[k]:=by rw [List.getD_eq_getElem?_getD,hx];rfl
 refine ⟨ws,by rw [hg,r],s,?_,fun ws' hw'=>⟨⟨rfl,by kernel_rfl,Nat.zero_le _,by decide,by rw [h1,List.length_map];exact hk,?_⟩,?_⟩⟩
 ·have he:qO0 PP 28 4 (ts.map itV) (k*4+3)=some (.osl 1 (gE 4 (ts.map itV) (k*4+3) 0)):=by kernel_rfl
  unfold ldX;rw [he,hg]
  change zx0 PP 28 (qE0 4 _ (k*4+3) 1)=_
  rw [jN0 (by omega) (by omega) (show 3+1≤4 by omega) hx]
  first | kernel_rfl | rfl
 ·rw [h1,h2,hgd]
  intro e;cases e
 ·have hs:qT0 4 (ts.map itV) (k*4+3) (.osl 1 (ws'.map V.str))=(ts.set k { ts[k] with ns:=ws'.map V.str }).map itV:=by
   unfold qT0
   rw [h1,h2,hgd,← qZ2 hk]
   rfl
  rw [hs]
  refine ⟨_,rfl,by rw [List.length_set],by rw [List.length_set];omega,fun x hx=>?_⟩
  rcases List.mem_or_eq_of_mem_set hx with h | h
  ·obtain ⟨p,q,ws,r,s⟩:=h4 x h;exact ⟨p,q,ws,r,by omega⟩
  ·rw [h];exact ⟨p,q,ws',rfl,hw'⟩
theorem XC0 (k:Int) (w:List UInt8):Ok1 (fun X=>X.O (.call 17 [.agg [.int .i64 k,.str w]] Heap.empty)) fun a=>a=true→k≠2 :=
 .tk (R:=rO) (L:=lO) (fun _=>rfl) (fun _=>rfl) (Tk.by (.of (fun m=>Jv1 (XM m) _ none some k w) (by
  repeat' (first | refine Rn.dec (fun _=>?_) (fun _=>?_) | refine Rn.ndec (fun _=>?_) (fun _=>?_) | exact Rn.ret ⟨_,rfl,fun _=>by omega⟩ | exact Rn.ret ⟨_,rfl,fun e=>by cases e⟩))))
noncomputable def lIx:Res→Ix
 | .code _ fr h=>(match fr.tm.get undef 4 with
  | .sl _ v1 _ n1 _=>(match fr.tm.get undef 5 with
   | .sl _ v2 _ n2 _=>⟨qK0 (fr.tm.get undef 0),true,v1,n1,zs0 (h.get 0),true,v2,n2,zs0 (h.get 1)⟩
   | _=>⟨qK0 (fr.tm.get undef 0),true,v1,n1,zs0 (h.get 0),false,0,0,[]⟩)
  | _=>(match fr.tm.get undef 5 with
   | .sl _ v2 _ n2 _=>⟨qK0 (fr.tm.get undef 0),false,0,0,[],true,v2,n2,zs0 (h.get 0)⟩
   | _=>⟨qK0 (fr.tm.get undef 0),false,0,0,[],false,0,0,[]⟩))
 | _=>⟨[],false,0,0,[],false,0,0,[]⟩
def nIx (a:Ix):Ix:=bif a.b1 then (bif a.b2 then ⟨a.es,true,a.v1,a.n1,a.l1,true,a.v2,a.n2,a.l2⟩ else ⟨a.es,true,a.v1,a.n1,a.l1,false,0,0,[]⟩) else (bif a.b2 then ⟨a.es,false,0,0,[],true,a.v2,a.n2,a.l2⟩ else ⟨a.es,false,0,0,[],false,0,0,[]⟩)
theorem Qb0 (a:Ix):lIx (rIx (base 7 93) a.b1 a.b2 a)=nIx a:=by
 obtain ⟨es,b1,v1,n1,l1,b2,v2,n2,l2⟩:=a
 cases b1 <;> cases b2 <;> kernel_rfl
def PI (es:List V) (a:Ix):Prop:=a.es=es∧(a.b1=true→SS 65536 a.n1 a.l1)∧(a.b2=true→IS 65536 a.n2 a.l2)
theorem PI.n {es:List V}:∀ a,PI es (nIx a)→PI es a:=fun ⟨e,b1,v1,n1,l1,b2,v2,n2,l2⟩ ⟨h1,h2,h3⟩=>by
 cases b1 <;> cases b2
 ·exact ⟨h1,(fun e=>by cases e),fun e=>by cases e⟩
 ·exact ⟨h1,(fun e=>by cases e),h3⟩
 ·exact ⟨h1,h2,fun e=>by cases e⟩
 ·exact ⟨h1,h2,h3⟩
abbrev PIr (es:List V) (r:Res):Prop:=∃ a,r=rIx (base 7 93) a.b1 a.b2 a∧PI es (nIx a)
theorem zQ0 {es:List V} (a:Ix) (ha:PI es a):Rn (fun _=>bif a.b1 then (bif a.b2 then (need none (GndR a.l1) (need none (GndR a.l2) (some (.code (.exit 0) ((base 7 93).on [(0,.osl 2 a.es),(4,.sl 0 a.v1 0 a.n1 none),(5,.sl 1 a.v2 0 a.n2 none)]) (hp [.row a.v1 9 1 0 none a.l1,.row a.v2 41 4 0 none a.l2]))))) else (need none (GndR a.l1) (some (.code (.exit 0) ((base 7 93).on [(0,.osl 2 a.es),(4,.sl 0 a.v1 0 a.n1 none),(5,.nils)]) (hp [.row a.v1 9 1 0 none a.l1]))))) else (bif a.b2 then (need none (GndR a.l2) (some (.code (.exit 0) ((base 7 93).on [(0,.osl 2 a.es),(4,.nils),(5,.sl 0 a.v2 0 a.n2 none)]) (hp [.row a.v2 41 4 0 none a.l2])))) else (some (.code (.exit 0) ((base 7 93).on [(0,.osl 2 a.es),(4,.nils),(5,.nils)]) Heap.empty)))) (PIr es):=by
 obtain ⟨e,b1,v1,n1,l1,b2,v2,n2,l2⟩:=a
 obtain ⟨h1,h2,h3⟩:=ha
 refine Rn.cond (fun hb1=>?_) (fun hb1=>?_)
 ·have g1:=h2 hb1
  refine Rn.cond (fun hb2=>?_) (fun hb2=>?_)
  ·have g2:=h3 hb2
   exact Rn.need g1.gnd (Rn.need g2.gnd (Rn.ret ⟨⟨e,true,v1,n1,l1,true,v2,n2,l2⟩,rfl,h1,fun _=>g1,fun _=>g2⟩))
  ·exact Rn.need g1.gnd (Rn.ret ⟨⟨e,true,v1,n1,l1,false,0,0,[]⟩,rfl,h1,(fun _=>g1),fun e=>by cases e⟩)
 ·refine Rn.cond (fun hb2=>?_) (fun hb2=>?_)
  ·have g2:=h3 hb2
   exact Rn.need g2.gnd (Rn.ret ⟨⟨e,false,0,0,[],true,v2,n2,l2⟩,rfl,h1,(fun e=>by cases e),fun _=>g2⟩)
  ·exact Rn.ret ⟨⟨e,false,0,0,[],false,0,0,[]⟩,rfl,h1,(fun e=>by cases e),fun e=>by cases e⟩
theorem yS1 (ts:List (Int×List UInt8)) (hts:ts.length≤65536) (hg:∀ t,t∈ts→t.2≠[]∧t.2.length≤65536):∀ (d:Nat) (i g:Int) (v1 n1:Nat) (l1:List V) (v2 n2:Nat) (l2:List V),0≤i→i≤ts.length→(ts.length:Int)-i≤d→0≤g→g≤65536*i→SS i n1 l1→IS i n2 l2→1≤n2→Ok1 (fun X=>X.Ix (.code (.loop (lpB PP 7 0)) ((base 7 93).on [(0,.osl 2 (ts.map qu0)),(4,.sl 0 v1 0 n1 none),(5,.sl 1 v2 0 n2 none),(6,.int .i64 g),(7,.int .i64 i)]) (hp [strR v1 l1,QQ0 v2 l2]))) (PI (ts.map qu0)):=by
 intro d
 induction d with
 | zero =>
  intro i g v1 n1 l1 v2 n2 l2  q0 q1 q2 q3 q4 h1 h2 h3
  refine .nrm (R:=fun a=>rIx (base 7 93) a.b1 a.b2 a) (L:=lIx) (N:=nIx) (fun _=>rfl) Qb0 PI.n (Tk.by (.of (fun m=>zS1 (XM m) _ none some (ts.map qu0) g i v1 n1 l1 v2 n2 l2) ?_))
  rw [List.length_map]
  refine Rn.dec (fun h=>absurd h (by omega)) (fun _=>?_)
  (repeat refine Rn.need (by first | exact h1.gnd | exact h2.gnd) ?_);exact Rn.ret ⟨⟨_,true,v1,n1,l1,true,v2,n2,l2⟩,rfl,rfl,(fun _=>h1.mono (by omega)),fun _=>h2.mono (by omega)⟩
 | succ d IH =>
  intro i g v1 n1 l1 v2 n2 l2  q0 q1 q2 q3 q4 h1 h2 h3
  refine .nrm (R:=fun a=>rIx (base 7 93) a.b1 a.b2 a) (L:=lIx) (N:=nIx) (fun _=>rfl) Qb0 PI.n (Tk.by (.of (fun m=>zS1 (XM m) _ none some (ts.map qu0) g i v1 n1 l1 v2 n2 l2) ?_))
  rw [List.length_map]
  refine Rn.dec (fun hi=>?_) (fun _=>?_)
  case refine_2=>(repeat refine Rn.need (by first | exact h1.gnd | exact h2.gnd) ?_);exact Rn.ret ⟨⟨_,true,v1,n1,l1,true,v2,n2,l2⟩,rfl,rfl,(fun _=>h1.mono (by omega)),fun _=>h2.mono (by omega)⟩
  obtain ⟨t,hx,htw⟩:∃ t:Int×List UInt8,(ts.map qu0)[i.toNat]?=some (qu0 t)∧t.2≠[]∧t.2.length≤65536:=⟨_,jn0 (by omega),hg _ (List.getElem_mem _)⟩
  obtain ⟨g1,g2,g3⟩:=Qt0 hx
  have hK:=Jr0 hx
  have hW:=Js0 hx
  have hL:=(Ke0 hx).2
  have hp1:=h1.push t.2
  have hl1:=h1.len
  have hg1:=h1.gnd
  have hgp1:=hp1.gnd
  have hp2:=h2.push q0 t.1 htw g
  have hl2:=h2.len
  have hg2:=h2.gnd
  have hgp2:=hp2.gnd
  obtain ⟨ws,w1,w2,w3,w4⟩:=h2.note h3
  have w5:ws.map V.str++[V.str t.2]=(ws++[t.2]).map V.str:=by rw [List.map_append];rfl
  have u1:=w4 [t.2] (by simp;omega)
  have u2:=w4 (ws++[t.2]) (by simp;omega)
  have ug1:=u1.2.gnd
  have ug2:=u2.2.gnd
  have ug3:=jX0 (ws++[t.2])
  have ug4:GndR [V.str t.2]:=jX0 [t.2]
  have u1a:stX PP 28 (.osl 1 [V.str t.2]) 0 4 l2 _:=u1.1
  have u2a:=u2.1
  have u1b:IS (i+1) n2 (qT0 4 l2 _ (.osl 1 [V.str t.2])):=u1.2
  have u1g:=u1b.gnd
  have u2b:=u2.2
  have hn0:¬ ((n2:Int)=0):=by omega
  have hnp:0<(n2:Int):=by omega
  simp only [Nat.add_eq,Nat.add_zero,Nat.zero_add,List.length_cons,List.length_nil,List.length_append,g1,g2,g3,w1,w5]
  refine Rn.nX (by omega) ?_
  refine Rn.need hL ?_
  refine Rn.bndO (XC0 t.1 t.2) (fun b hb=>?_)
  refine Rn.cond (fun hbt=>?_) (fun hbf=>?_)
  ·have hb:=hb hbt
   repeat' (first | (with_reducible assumption) | refine Rn.dec (fun h=>absurd h hb) (fun _=>?_) | refine Rn.dec (fun h=>absurd h hn0) (fun _=>?_) | refine Rn.dec (fun _=>?_) (fun h=>absurd hnp h) | refine Rn.dec (fun _=>?_) (fun _=>?_) | refine Rn.nX (by omega) ?_ | refine Rn.nI (by omega) ?_ | refine Rn.join ?_ (fun _ hj=>?_) | refine Rn.need ?_ ?_ | (with_reducible refine Rn.bndO (IH (i+1) _ _ _ _ _ _ _ ?_ ?_ ?_ ?_ ?_ ?_ ?_ ?_) zQ0) | refine Rn.cond (fun _=>?_) (fun _=>?_) | (with_reducible exact hp1) | (with_reducible exact (h1.mono (by omega))) | (with_reducible exact hp2) | (with_reducible exact (h2.mono (by omega))) | exact trivial | (with_reducible rfl) | refine And.intro ?_ ?_ | omega | exact List.cons_ne_nil _ _ | exact yy0 (by assumption) | (simp only [List.length_cons,List.length_nil,List.length_append,List.length_map] <;> omega))
  ·repeat' (first | (with_reducible assumption) | refine Rn.dec (fun h=>absurd h hn0) (fun _=>?_) | refine Rn.dec (fun _=>?_) (fun h=>absurd hnp h) | refine Rn.dec (fun _=>?_) (fun _=>?_) | refine Rn.nX (by omega) ?_ | refine Rn.nI (by omega) ?_ | refine Rn.join ?_ (fun _ hj=>?_) | refine Rn.need ?_ ?_ | (with_reducible refine Rn.bndO (IH (i+1) _ _ _ _ _ _ _ ?_ ?_ ?_ ?_ ?_ ?_ ?_ ?_) zQ0) | refine Rn.cond (fun _=>?_) (fun _=>?_) | (with_reducible exact hp1) | (with_reducible exact (h1.mono (by omega))) | (with_reducible exact hp2) | (with_reducible exact (h2.mono (by omega))) | exact trivial | (with_reducible rfl) | refine And.intro ?_ ?_ | omega | exact List.cons_ne_nil _ _ | exact yy0 (by assumption) | (simp only [List.length_cons,List.length_nil,List.length_append,List.length_map] <;> omega))
theorem yQ1 (ts:List (Int×List UInt8)) (hts:ts.length≤65536) (hg:∀ t,t∈ts→t.2≠[]∧t.2.length≤65536):∀ (d:Nat) (i g:Int) (v2 n2:Nat) (l2:List V),0≤i→i≤ts.length→(ts.length:Int)-i≤d→0≤g→g≤65536*i→IS i n2 l2→1≤n2→Ok1 (fun X=>X.Ix (.code (.loop (lpB PP 7 0)) ((base 7 93).on [(0,.osl 2 (ts.map qu0)),(4,.nils),(5,.sl 0 v2 0 n2 none),(6,.int .i64 g),(7,.int .i64 i)]) (hp [QQ0 v2 l2]))) (PI (ts.map qu0)):=by
 intro d
 induction d with
 | zero =>
  intro i g v2 n2 l2  q0 q1 q2 q3 q4 h2 h3
  refine .nrm (R:=fun a=>rIx (base 7 93) a.b1 a.b2 a) (L:=lIx) (N:=nIx) (fun _=>rfl) Qb0 PI.n (Tk.by (.of (fun m=>zQ1 (XM m) _ none some (ts.map qu0) g i v2 n2 l2) ?_))
  rw [List.length_map]
  refine Rn.dec (fun h=>absurd h (by omega)) (fun _=>?_)
  (repeat refine Rn.need h2.gnd ?_);exact Rn.ret ⟨⟨_,false,0,0,[],true,v2,n2,l2⟩,rfl,rfl,(fun e=>by cases e),fun _=>h2.mono (by omega)⟩
 | succ d IH =>
  intro i g v2 n2 l2  q0 q1 q2 q3 q4 h2 h3
  refine .nrm (R:=fun a=>rIx (base 7 93) a.b1 a.b2 a) (L:=lIx) (N:=nIx) (fun _=>rfl) Qb0 PI.n (Tk.by (.of (fun m=>zQ1 (XM m) _ none some (ts.map qu0) g i v2 n2 l2) ?_))
  rw [List.length_map]
  refine Rn.dec (fun hi=>?_) (fun _=>?_)
  case refine_2=>(repeat refine Rn.need h2.gnd ?_);exact Rn.ret ⟨⟨_,false,0,0,[],true,v2,n2,l2⟩,rfl,rfl,(fun e=>by cases e),fun _=>h2.mono (by omega)⟩
  obtain ⟨t,hx,htw⟩:∃ t:Int×List UInt8,(ts.map qu0)[i.toNat]?=some (qu0 t)∧t.2≠[]∧t.2.length≤65536:=⟨_,jn0 (by omega),hg _ (List.getElem_mem _)⟩
  obtain ⟨g1,g2,g3⟩:=Qt0 hx
  have hK:=Jr0 hx
  have hW:=Js0 hx
  have hL:=(Ke0 hx).2
  have hp1:=SS.one q0 t.2
  have hgp1:=hp1.gnd
  have hp2:=h2.push q0 t.1 htw g
  have hl2:=h2.len
  have hg2:=h2.gnd
  have hgp2:=hp2.gnd
  obtain ⟨ws,w1,w2,w3,w4⟩:=h2.note h3
  have w5:ws.map V.str++[V.str t.2]=(ws++[t.2]).map V.str:=by rw [List.map_append];rfl
  have u1:=w4 [t.2] (by simp;omega)
  have u2:=w4 (ws++[t.2]) (by simp;omega)
  have ug1:=u1.2.gnd
  have ug2:=u2.2.gnd
  have ug3:=jX0 (ws++[t.2])
  have ug4:GndR [V.str t.2]:=jX0 [t.2]
  have u1a:stX PP 28 (.osl 1 [V.str t.2]) 0 4 l2 _:=u1.1
  have u2a:=u2.1
  have u1b:IS (i+1) n2 (qT0 4 l2 _ (.osl 1 [V.str t.2])):=u1.2
  have u1g:=u1b.gnd
  have u2b:=u2.2
  have hn0:¬ ((n2:Int)=0):=by omega
  have hnp:0<(n2:Int):=by omega
  simp only [Nat.add_eq,Nat.add_zero,Nat.zero_add,List.length_cons,List.length_nil,List.length_append,g1,g2,g3,w1,w5]
  refine Rn.nX (by omega) ?_
  refine Rn.need hL ?_
  refine Rn.bndO (XC0 t.1 t.2) (fun b hb=>?_)
  refine Rn.cond (fun hbt=>?_) (fun hbf=>?_)
  ·have hb:=hb hbt
   repeat' (first | (with_reducible assumption) | refine Rn.dec (fun h=>absurd h hb) (fun _=>?_) | refine Rn.dec (fun h=>absurd h hn0) (fun _=>?_) | refine Rn.dec (fun _=>?_) (fun h=>absurd hnp h) | refine Rn.dec (fun _=>?_) (fun _=>?_) | refine Rn.nX (by omega) ?_ | refine Rn.nI (by omega) ?_ | refine Rn.join ?_ (fun _ hj=>?_) | refine Rn.need ?_ ?_ | (with_reducible refine Rn.bndO (IH (i+1) _ _ _ _ ?_ ?_ ?_ ?_ ?_ ?_ ?_) zQ0) | refine Rn.cond (fun _=>?_) (fun _=>?_) | (with_reducible exact hp1) | (with_reducible exact hp2) | (with_reducible exact (h2.mono (by omega))) | exact trivial | (with_reducible rfl) | refine And.intro ?_ ?_ | omega | exact List.cons_ne_nil _ _ | exact yy0 (by assumption) | (simp only [List.length_cons,List.length_nil,List.length_append,List.length_map] <;> omega))
  ·repeat' (first | (with_reducible assumption) | refine Rn.dec (fun h=>absurd h hn0) (fun _=>?_) | refine Rn.dec (fun _=>?_) (fun h=>absurd hnp h) | refine Rn.dec (fun _=>?_) (fun _=>?_) | refine Rn.nX (by omega) ?_ | refine Rn.nI (by omega) ?_ | refine Rn.join ?_ (fun _ hj=>?_) | refine Rn.need ?_ ?_ | (with_reducible refine Rn.bndO (IH (i+1) _ _ _ _ ?_ ?_ ?_ ?_ ?_ ?_ ?_) zQ0) | refine Rn.cond (fun _=>?_) (fun _=>?_) | (with_reducible exact hp1) | (with_reducible exact hp2) | (with_reducible exact (h2.mono (by omega))) | exact trivial | (with_reducible rfl) | refine And.intro ?_ ?_ | omega | exact List.cons_ne_nil _ _ | exact yy0 (by assumption) | (simp only [List.length_cons,List.length_nil,List.length_append,List.length_map] <;> omega))
theorem yR1 (ts:List (Int×List UInt8)) (hts:ts.length≤65536) (hg:∀ t,t∈ts→t.2≠[]∧t.2.length≤65536):∀ (d:Nat) (i g:Int) (v1 n1:Nat) (l1:List V),0≤i→i≤ts.length→(ts.length:Int)-i≤d→0≤g→g≤65536*i→SS i n1 l1→Ok1 (fun X=>X.Ix (.code (.loop (lpB PP 7 0)) ((base 7 93).on [(0,.osl 2 (ts.map qu0)),(4,.sl 0 v1 0 n1 none),(5,.nils),(6,.int .i64 g),(7,.int .i64 i)]) (hp [strR v1 l1]))) (PI (ts.map qu0)):=by
 intro d
 induction d with
 | zero =>
  intro i g v1 n1 l1  q0 q1 q2 q3 q4 h1
  refine .nrm (R:=fun a=>rIx (base 7 93) a.b1 a.b2 a) (L:=lIx) (N:=nIx) (fun _=>rfl) Qb0 PI.n (Tk.by (.of (fun m=>zR1 (XM m) _ none some (ts.map qu0) g i v1 n1 l1) ?_))
  rw [List.length_map]
  refine Rn.dec (fun h=>absurd h (by omega)) (fun _=>?_)
  (repeat refine Rn.need h1.gnd ?_);exact Rn.ret ⟨⟨_,true,v1,n1,l1,false,0,0,[]⟩,rfl,rfl,(fun _=>h1.mono (by omega)),fun e=>by cases e⟩
 | succ d IH =>
  intro i g v1 n1 l1  q0 q1 q2 q3 q4 h1
  refine .nrm (R:=fun a=>rIx (base 7 93) a.b1 a.b2 a) (L:=lIx) (N:=nIx) (fun _=>rfl) Qb0 PI.n (Tk.by (.of (fun m=>zR1 (XM m) _ none some (ts.map qu0) g i v1 n1 l1) ?_))
  rw [List.length_map]
  refine Rn.dec (fun hi=>?_) (fun _=>?_)
  case refine_2=>(repeat refine Rn.need h1.gnd ?_);exact Rn.ret ⟨⟨_,true,v1,n1,l1,false,0,0,[]⟩,rfl,rfl,(fun _=>h1.mono (by omega)),fun e=>by cases e⟩
  obtain ⟨t,hx,htw⟩:∃ t:Int×List UInt8,(ts.map qu0)[i.toNat]?=some (qu0 t)∧t.2≠[]∧t.2.length≤65536:=⟨_,jn0 (by omega),hg _ (List.getElem_mem _)⟩
  obtain ⟨g1,g2,g3⟩:=Qt0 hx
  have hK:=Jr0 hx
  have hW:=Js0 hx
  have hL:=(Ke0 hx).2
  have hp1:=h1.push t.2
  have hl1:=h1.len
  have hg1:=h1.gnd
  have hgp1:=hp1.gnd
  have hp2:=IS.one q0 t.1 htw g
  have hgp2:=hp2.gnd
  have ug4:GndR [V.str t.2]:=jX0 [t.2]
  simp only [Nat.add_eq,Nat.add_zero,Nat.zero_add,List.length_cons,List.length_nil,List.length_append,g1,g2,g3]
  refine Rn.nX (by omega) ?_
  refine Rn.need hL ?_
  refine Rn.bndO (XC0 t.1 t.2) (fun b hb=>?_)
  refine Rn.cond (fun hbt=>?_) (fun hbf=>?_)
  ·have hb:=hb hbt
   repeat' (first | (with_reducible assumption) | refine Rn.dec (fun h=>absurd h hb) (fun _=>?_) | refine Rn.dec (fun _=>?_) (fun _=>?_) | refine Rn.nX (by omega) ?_ | refine Rn.nI (by omega) ?_ | refine Rn.join ?_ (fun _ hj=>?_) | refine Rn.need ?_ ?_ | (with_reducible refine Rn.bndO (IH (i+1) _ _ _ _ ?_ ?_ ?_ ?_ ?_ ?_) zQ0) | (with_reducible refine Rn.bndO (yS1 ts hts hg d (i+1) _ _ _ _ _ _ _ ?_ ?_ ?_ ?_ ?_ ?_ ?_ ?_) zQ0) | refine Rn.cond (fun _=>?_) (fun _=>?_) | (with_reducible exact hp1) | (with_reducible exact (h1.mono (by omega))) | (with_reducible exact hp2) | exact trivial | (with_reducible rfl) | refine And.intro ?_ ?_ | omega | exact List.cons_ne_nil _ _ | exact yy0 (by assumption) | (simp only [List.length_cons,List.length_nil,List.length_append,List.length_map] <;> omega))
  ·repeat' (first | (with_reducible assumption) | fail | refine Rn.dec (fun _=>?_) (fun _=>?_) | refine Rn.nX (by omega) ?_ | refine Rn.nI (by omega) ?_ | refine Rn.join ?_ (fun _ hj=>?_) | refine Rn.need ?_ ?_ | (with_reducible refine Rn.bndO (IH (i+1) _ _ _ _ ?_ ?_ ?_ ?_ ?_ ?_) zQ0) | (with_reducible refine Rn.bndO (yS1 ts hts hg d (i+1) _ _ _ _ _ _ _ ?_ ?_ ?_ ?_ ?_ ?_ ?_ ?_) zQ0) | refine Rn.cond (fun _=>?_) (fun _=>?_) | (with_reducible exact hp1) | (with_reducible exact (h1.mono (by omega))) | (with_reducible exact hp2) | exact trivial | (with_reducible rfl) | refine And.intro ?_ ?_ | omega | exact List.cons_ne_nil _ _ | exact yy0 (by assumption) | (simp only [List.length_cons,List.length_nil,List.length_append,List.length_map] <;> omega))
theorem XN1 (ts:List (Int×List UInt8)) (hts:ts.length≤65536) (hg:∀ t,t∈ts→t.2≠[]∧t.2.length≤65536):∀ (d:Nat) (i g:Int) ,0≤i→i≤ts.length→(ts.length:Int)-i≤d→0≤g→g≤65536*i→ Ok1 (fun X=>X.Ix (.code (.loop (lpB PP 7 0)) ((base 7 93).on [(0,.osl 2 (ts.map qu0)),(4,.nils),(5,.nils),(6,.int .i64 g),(7,.int .i64 i)]) Heap.empty)) (PI (ts.map qu0)):=by
 intro d
 induction d with
 | zero =>
  intro i g  q0 q1 q2 q3 q4
  refine .nrm (R:=fun a=>rIx (base 7 93) a.b1 a.b2 a) (L:=lIx) (N:=nIx) (fun _=>rfl) Qb0 PI.n (Tk.by (.of (fun m=>zP1 (XM m) _ none some (ts.map qu0) g i) ?_))
  rw [List.length_map]
  refine Rn.dec (fun h=>absurd h (by omega)) (fun _=>?_)
  exact Rn.ret ⟨⟨_,false,0,0,[],false,0,0,[]⟩,rfl,rfl,(fun e=>by cases e),fun e=>by cases e⟩
 | succ d IH =>
  intro i g  q0 q1 q2 q3 q4
  refine .nrm (R:=fun a=>rIx (base 7 93) a.b1 a.b2 a) (L:=lIx) (N:=nIx) (fun _=>rfl) Qb0 PI.n (Tk.by (.of (fun m=>zP1 (XM m) _ none some (ts.map qu0) g i) ?_))
  rw [List.length_map]
  refine Rn.dec (fun hi=>?_) (fun _=>?_)
  case refine_2=>exact Rn.ret ⟨⟨_,false,0,0,[],false,0,0,[]⟩,rfl,rfl,(fun e=>by cases e),fun e=>by cases e⟩
  obtain ⟨t,hx,htw⟩:∃ t:Int×List UInt8,(ts.map qu0)[i.toNat]?=some (qu0 t)∧t.2≠[]∧t.2.length≤65536:=⟨_,jn0 (by omega),hg _ (List.getElem_mem _)⟩
  obtain ⟨g1,g2,g3⟩:=Qt0 hx
  have hK:=Jr0 hx
  have hW:=Js0 hx
  have hL:=(Ke0 hx).2
  have hp1:=SS.one q0 t.2
  have hgp1:=hp1.gnd
  have hp2:=IS.one q0 t.1 htw g
  have hgp2:=hp2.gnd
  have ug4:GndR [V.str t.2]:=jX0 [t.2]
  simp only [Nat.add_eq,Nat.add_zero,Nat.zero_add,List.length_cons,List.length_nil,List.length_append,g1,g2,g3]
  refine Rn.nX (by omega) ?_
  refine Rn.need hL ?_
  refine Rn.bndO (XC0 t.1 t.2) (fun b hb=>?_)
  refine Rn.cond (fun hbt=>?_) (fun hbf=>?_)
  ·have hb:=hb hbt
   repeat' (first | (with_reducible assumption) | refine Rn.dec (fun h=>absurd h hb) (fun _=>?_) | refine Rn.dec (fun _=>?_) (fun _=>?_) | refine Rn.nX (by omega) ?_ | refine Rn.nI (by omega) ?_ | refine Rn.join ?_ (fun _ hj=>?_) | refine Rn.need ?_ ?_ | (with_reducible refine Rn.bndO (IH (i+1) _  ?_ ?_ ?_ ?_ ?_ ) zQ0) | (with_reducible refine Rn.bndO (yR1 ts hts hg d (i+1) _ _ _ _ ?_ ?_ ?_ ?_ ?_ ?_) zQ0) | (with_reducible refine Rn.bndO (yQ1 ts hts hg d (i+1) _ _ _ _ ?_ ?_ ?_ ?_ ?_ ?_ ?_) zQ0) | refine Rn.cond (fun _=>?_) (fun _=>?_) | (with_reducible exact hp1) | (with_reducible exact hp2) | exact trivial | (with_reducible rfl) | refine And.intro ?_ ?_ | omega | exact List.cons_ne_nil _ _ | exact yy0 (by assumption) | (simp only [List.length_cons,List.length_nil,List.length_append,List.length_map] <;> omega))
  ·repeat' (first | (with_reducible assumption) | fail | refine Rn.dec (fun _=>?_) (fun _=>?_) | refine Rn.nX (by omega) ?_ | refine Rn.nI (by omega) ?_ | refine Rn.join ?_ (fun _ hj=>?_) | refine Rn.need ?_ ?_ | (with_reducible refine Rn.bndO (IH (i+1) _  ?_ ?_ ?_ ?_ ?_ ) zQ0) | (with_reducible refine Rn.bndO (yR1 ts hts hg d (i+1) _ _ _ _ ?_ ?_ ?_ ?_ ?_ ?_) zQ0) | (with_reducible refine Rn.bndO (yQ1 ts hts hg d (i+1) _ _ _ _ ?_ ?_ ?_ ?_ ?_ ?_ ?_) zQ0) | refine Rn.cond (fun _=>?_) (fun _=>?_) | (with_reducible exact hp1) | (with_reducible exact hp2) | exact trivial | (with_reducible rfl) | refine And.intro ?_ ?_ | omega | exact List.cons_ne_nil _ _ | exact yy0 (by assumption) | (simp only [List.length_cons,List.length_nil,List.length_append,List.length_map] <;> omega))
noncomputable def lIT:Res→List V×List V
 | .ret v _=>(match v with
  | .tup [a,b]=>(qK0 a,qK0 b)
  | _=>([],[]))
 | _=>([],[])
theorem XO1 (es:List V) (h:Tks es):Ok1 (fun X=>X.IT (.call 7 [.osl 2 es] Heap.empty)) fun a=>∃ n,IS 65536 n a.2:=by
 obtain ⟨ts,rfl,h1,h2⟩:=h
 refine .tk (R:=rIT) (L:=lIT) (fun _=>rfl) (fun _=>rfl) (Tk.by (.of (fun m=>Jc1 (XM m) _ none some (ts.map qu0)) ?_))
 refine Rn.bndO (XN1 ts h1 h2 ts.length 0 0 (by omega) (by omega) (by omega) (by omega) (by omega)) (fun ⟨e,b1,v1,n1,l1,b2,v2,n2,l2⟩ ⟨_,p1,p2⟩=>?_)
 refine Rn.cond (fun hb1=>?_) (fun hb1=>?_)
 ·have g1:=p1 hb1
  refine Rn.cond (fun hb2=>?_) (fun hb2=>?_)
  ·have g2:=p2 hb2
   exact Rn.nG g1.len.1 g1.gnd (Rn.nG g2.len.1 g2.gnd (Rn.ret ⟨(_,_),rfl,_,g2⟩))
  ·exact Rn.nG g1.len.1 g1.gnd (Rn.ret ⟨(_,_),rfl,_,IS.nil (by omega)⟩)
 ·refine Rn.cond (fun hb2=>?_) (fun hb2=>?_)
  ·have g2:=p2 hb2
   exact Rn.nG g2.len.1 g2.gnd (Rn.ret ⟨(_,_),rfl,_,g2⟩)
  ·exact Rn.ret ⟨(_,_),rfl,_,IS.nil (by omega)⟩
/-- THE REFERENCE's SPREAD, AND THE LAW TidySpreads. -/
structure Sr where
 es:List V
 ms:List V
 u:Bool
 v1:Nat
 n1:Nat
 l1:List V
 s:Bool
 v2:Nat
 n2:Nat
 l2:List V
 x:List V
noncomputable def rSr (fr:Fr) (u s:Bool) (a:Sr):Res:=Bool.rec
 (Bool.rec
  (.code (.exit 0) ((base fr.fn fr.n).on [(0,.osl 4 a.es),(1,.osl 1 a.ms),(6,.nils),(7,.nils)]) Heap.empty)
  (.code (.exit 0) ((base fr.fn fr.n).on [(0,.osl 4 a.es),(1,.osl 1 a.ms),(6,.nils),(7,.sl 0 a.v2 0 a.n2 none)]) (hp [rwO a.v2 a.l2 (.osl 1 a.x)])) s)
 (Bool.rec
  (.code (.exit 0) ((base fr.fn fr.n).on [(0,.osl 4 a.es),(1,.osl 1 a.ms),(6,.sl 0 a.v1 0 a.n1 none),(7,.nils)]) (hp [rwT a.v1 a.l1]))
  (.code (.exit 0) ((base fr.fn fr.n).on [(0,.osl 4 a.es),(1,.osl 1 a.ms),(6,.sl 0 a.v1 0 a.n1 none),(7,.sl 1 a.v2 0 a.n2 none)]) (hp [rwT a.v1 a.l1,rwO a.v2 a.l2 (.osl 1 a.x)])) s) u
noncomputable def rSm (fr:Fr) (a:List V×List V):Res:=.code (.exit 0) ((base fr.fn fr.n).on [(0,.osl 1 a.1),(1,.osl 1 a.2)]) Heap.empty
noncomputable def rS5 (fr:Fr) (a:List V×List UInt8):Res:=.code (.exit 0) ((base fr.fn fr.n).on [(1,.osl 1 a.1),(10,.str a.2)]) Heap.empty
noncomputable def rLw (fr:Fr) (_:Unit):Res:=.code (.exit 0) ((base fr.fn fr.n).on []) Heap.empty
structure TsX where
 O:Task→PR Bool Int
 W:Task→PR (List UInt8) Int
 E:Task→PR (List V) Int
 TT:Task→PR (List V×Int×Int) Int
 IT:Task→PR (List V×List V) Int
 SS:Task→PR (List V×List V) Int
 Sr:Task→PR Sr Int
 Sm:Task→PR (List V×List V) Int
 S5:Task→PR (List V×List UInt8) Int
 Lw:Task→PR Unit Int
noncomputable def tbTsK (X:TsX) (t:Task) (k:Nat):Option Ent :=
 match k with
 | 1=>some (ent (X.O t) rO qN)
 | 2=>some (ent (X.W t) rW qN)
 | 3=>some (ent (X.E t) rEm qN)
 | 4=>some (ent (X.TT t) rTT qN)
 | 5=>some (ent (X.IT t) rIT qN)
 | 6=>some (ent (X.SS t) rSS qN)
 | _=>none
def kindTs:T Nat:=(.n (.n (.n (.n (.n .e 2 .e) 5 .e) 0 .e) 0 (.n (.n .e 6 .e) 4 .e)) 0 (.n (.n (.n (.n .e 3 .e) 6 .e) 0 .e) 0 (.n (.n .e 1 .e) 2 .e)))
def XU1:T Nat:=(.n (.n (.n .e 4 .e) 0 (.n (.n .e 1 .e) 0 .e)) 0 (.n .e 0 (.n (.n .e 2 .e) 3 .e)))
noncomputable def tbTsL (X:TsX) (t:Task) (fr:Fr):Option Ent :=
 match T.get 0 XU1 fr.fn with
 | 1=>some (ent4 (X.Sr t) (fun a=>a.u) (fun a=>a.s) (rSr fr) qN)
 | 2=>some (ent (X.Sm t) (rSm fr) qN)
 | 3=>some (ent (X.S5 t) (rS5 fr) qN)
 | 4=>some (ent (X.Lw t) (rLw fr) qN)
 | _=>none
noncomputable def zO0 (X:TsX) (t:Task):Option Ent :=
 match t with
 | .call f _ _=>tbTsK X t (T.get 0 kindTs f)
 | .code c fr _=>(match c with
  | .loop _=>tbTsL X t fr
  | _=>none)
 | _=>none
noncomputable def XS (n:Nat):TsX where
 O:=fun t=>exR rO qN (rn PP EP CP n t)
 W:=fun t=>exR rW qN (rn PP EP CP n t)
 E:=fun t=>exR rEm qN (rn PP EP CP n t)
 TT:=fun t=>exR rTT qN (rn PP EP CP n t)
 IT:=fun t=>exR rIT qN (rn PP EP CP n t)
 SS:=fun t=>exR rSS qN (rn PP EP CP n t)
 Sr:=fun t=>exR (fun a=>rSr (frO t) a.u a.s a) qN (rn PP EP CP n t)
 Sm:=fun t=>exR (rSm (frO t)) qN (rn PP EP CP n t)
 S5:=fun t=>exR (rS5 (frO t)) qN (rn PP EP CP n t)
 Lw:=fun t=>exR (rLw (frO t)) qN (rn PP EP CP n t)
theorem tblXS (n:Nat):jE0 (rn PP EP CP n) (zO0 (XS n)):=by
 intro t e he
 unfold zO0 at he
 split at he
 ·unfold tbTsK at he
  split at he <;> first | (cases he;done) | exact jj0 (Option.some.inj he)
 ·rename_i c fr h
  split at he
  ·unfold tbTsL at he
   split at he <;> first | (cases he;done) | exact jj0 (Option.some.inj he) | exact zr1 (R:=rSr fr) (Option.some.inj he)
  ·cases he
 ·cases he
def OkS {α ε:Type} (K:TsX→PR α ε) (P:α→Prop):Prop:=∃ a,P a∧Evt fun n=>K (XS n)=.ok a
theorem Rn.bndS {α ε:Type} {K:TsX→PR α ε} {P:α→Prop} {f:α→Nat→Option Res} {g:ε→Nat→Option Res} {Q:Res→Prop} (h:OkS K P) (hf:∀ a,P a→Rn (f a) Q):Rn (fun n=>PR.bnd none (K (XS n)) (fun a=>f a n) (fun e=>g e n)) Q:=by
 obtain ⟨a,hP,hE⟩:=h
 exact .bnd hE (hf a hP)
theorem Tk.byS {t:Task} {Q:Res→Prop} (h:Rn (fun n=>evN PP EP CP (zO0 (XS n)) (rn PP EP CP n) none t some) Q):∃ r,Q r∧Tk t r:=by
 obtain ⟨r,hr,a,hE⟩:=h
 refine ⟨r,hr,a+1,fun n hn=>?_⟩
 obtain ⟨n,rfl⟩:∃ m,n=m+1:=⟨n-1,by omega⟩
 have h1:=KN0 (bot:=(none:Option Res)) (tblXS n) t some
 have h2:evN PP EP CP (zO0 (XS n)) (rn PP EP CP n) none t some=some r:=hE n (by omega)
 rw [h2] at h1
 rcases h1 with h1 | h1
 ·cases h1
 ·exact (Option.some.inj h1).symm
theorem OkS.tk {α ε:Type} {K:TsX→PR α ε} {R:α→Res} {Q:ε→Res} {L:Res→α} {t:Task} {P:α→Prop} (hK:∀ n,K (XS n)=exR R Q (rn PP EP CP n t)) (hL:∀ a,L (R a)=a) (h:∃ r,(∃ a,r=R a∧P a)∧Tk t r):OkS K P:=by
 obtain ⟨r,⟨a,rfl,hP⟩,hT⟩:=h
 exact ⟨a,hP,hT.mono fun n h=>by show K (XS n)=_;rw [hK,show rn PP EP CP n t=R a from h];exact exR_L hL a⟩
theorem OkS.nrm {α ε:Type} {K:TsX→PR α ε} {R:α→Res} {Q:ε→Res} {L:Res→α} {N:α→α} {t:Task} {P:α→Prop} (hK:∀ n,K (XS n)=exR R Q (rn PP EP CP n t)) (hL:∀ a,L (R a)=N a) (hN:∀ a,P (N a)→P a) (h:∃ r,(∃ a,r=R a∧P (N a))∧Tk t r):OkS K P:=by
 obtain ⟨r,⟨a,rfl,hP⟩,hT⟩:=h
 obtain ⟨a',h1,h2⟩:=Zy0 (R:=R) (Q:=Q) a
 refine ⟨a',hN _ ?_,hT.mono fun n h=>by show K (XS n)=_;rw [hK,show rn PP EP CP n t=R a from h,h2]⟩
 rw [← hL,h1,hL]
 exact hP
theorem OkT.ss {t:Task} {P:List V×List V→Prop} (h:OkT (fun X=>X.SS t) P):OkS (fun X=>X.SS t) P:=h
theorem Ok1.tt {t:Task} {P:List V×Int×Int→Prop} (h:Ok1 (fun X=>X.TT t) P):OkS (fun X=>X.TT t) P:=h
theorem Ok1.it {t:Task} {P:List V×List V→Prop} (h:Ok1 (fun X=>X.IT t) P):OkS (fun X=>X.IT t) P:=h
theorem Ok1.w {t:Task} {P:List UInt8→Prop} (h:Ok1 (fun X=>X.W t) P):OkS (fun X=>X.W t) P:=h
theorem Ok1.e {t:Task} {P:List V→Prop} (h:Ok1 (fun X=>X.E t) P):OkS (fun X=>X.E t) P:=h
/-- The ends of the reference's Spread's loop. -/
noncomputable def f15 {β:Type} (bot:β) (k:Res→β) (a:Sr):β :=
 bif a.u then (bif a.s then need bot (GndR a.l1) (need bot (GndR a.l2) (k (rSr (base 9 62) true true a))) else need bot (GndR a.l1) (k (rSr (base 9 62) true false a)))
 else (bif a.s then need bot (GndR a.l2) (k (rSr (base 9 62) false true a)) else k (rSr (base 9 62) false false a))
theorem zx1 (X:TsX) (ih:Task→Res) {β:Type} (bot:β) (k:Res→β) (es ms:List V) (i:Int):evN PP EP CP (zO0 X) ih bot (.code (.loop (lpB PP 9 0)) ((base 9 62).on [(0,.osl 4 es),(1,.osl 1 ms),(6,.nils),(7,.nils),(8,.int .i64 i)]) Heap.empty) k =
 bif decide (i<(↑(List.length es):Int)) then (jn (need bot (([V.nils]≠[])∧((1≤1099511627776)∧(24≤1099511627776))) (need bot ((-9223372036854775808≤0)∧((0:Int)≤9223372036854775807)) (need bot (((0:Int)≤0)∧((0:Int)<1)) (need bot ((0=0)∧(0=0)) (nX bot (i) (List.length es) (need bot (ldC PP 28 4 (es) (Nat.add (Int.toNat i*4) 3)) (bif qb0 (gE 4 es (Nat.add (Int.toNat i*4) 3) 0) then (need bot (((0:Int)≤0)∧((0:Int)<1)) (need bot ((0=0)∧((0=0)∧(0≤0))) (nI bot (i+1) (need bot (GndR []) (PR.bnd bot (X.7 (.code (.loop (lpB PP 9 0)) ((base 9 62).on [(0,(.osl 4 (es))),(1,(.osl 1 (ms))),(6,.nils),(7,(.sl 0 0 0 1 none)),(8,(.int .i64 (i+1)))]) (hp [.rowS 0 28 1 0 [] (.osl 1 [])]))) (fun a13=>f15 bot k a13)
 (fun e13=>k (qN e13)))))))
 else (need bot ((gE 4 es (Nat.add (Int.toNat i*4) 3) 0≠[])∧(((List.length (gE 4 es (Nat.add (Int.toNat i*4) 3) 0))≤1099511627776)∧((List.length (gE 4 es (Nat.add (Int.toNat i*4) 3) 0)*16)≤1099511627776))) (need bot (((0:Int)≤0)∧((0:Int)<1)) (need bot ((0=0)∧((0=0)∧(((List.length (gE 4 es (Nat.add (Int.toNat i*4) 3) 0))=(List.length (gE 4 es (Nat.add (Int.toNat i*4) 3) 0)))∧(GndR (gE 4 es (Nat.add (Int.toNat i*4) 3) 0))))) (need bot ((0=0)∧((0=0)∧(0≤0))) (nI bot (i+1) (need bot (GndR []) (need bot (GndR (gE 4 es (Nat.add (Int.toNat i*4) 3) 0)) (PR.bnd bot (X.7 (.code (.loop (lpB PP 9 0)) ((base 9 62).on [(0,(.osl 4 (es))),(1,(.osl 1 (ms))),(6,.nils),(7,(.sl 0 0 0 1 none)),(8,(.int .i64 (i+1)))]) (hp [.rowS 0 28 1 0 [] (.osl 1 (gE 4 es (Nat.add (Int.toNat i*4) 3) 0))]))) (fun a16=>f15 bot k a16)
 (fun e16=>k (qN e16)))))))))))))))))
 (fun j1:β=>bif decide ((↑(List.length ms):Int)≤i) then (j1)
 else (nX bot (i) (List.length ms) (need bot (ldC PP 4 1 (ms) (Int.toNat i*1)) (bif gB 1 ms (Int.toNat i*1) 0 then (need bot ((-9223372036854775808≤(-1))∧(((-1):Int)≤9223372036854775807)) (nX bot (i) (List.length es) (need bot (ldC PP 28 4 (es) (Nat.add (Int.toNat i*4) 3)) (bif qb0 (gE 4 es (Nat.add (Int.toNat i*4) 3) 0) then (nI bot (i+1) (PR.bnd bot (X.7 (.code (.loop (lpB PP 9 0)) ((base 9 62).on [(0,(.osl 4 (es))),(1,(.osl 1 (ms))),(6,.nils),(7,.nils),(8,(.int .i64 (i+1)))]) Heap.empty)) (fun a10=>f15 bot k a10)
 (fun e10=>k (qN e10))))
 else (need bot ((gE 4 es (Nat.add (Int.toNat i*4) 3) 0≠[])∧(((List.length (gE 4 es (Nat.add (Int.toNat i*4) 3) 0))≤1099511627776)∧((List.length (gE 4 es (Nat.add (Int.toNat i*4) 3) 0)*16)≤1099511627776))) (nI bot (i+1) (need bot (GndR (gE 4 es (Nat.add (Int.toNat i*4) 3) 0)) (PR.bnd bot (X.7 (.code (.loop (lpB PP 9 0)) ((base 9 62).on [(0,(.osl 4 (es))),(1,(.osl 1 (ms))),(6,(.sl 0 0 0 (List.length (gE 4 es (Nat.add (Int.toNat i*4) 3) 0)) none)),(7,.nils),(8,(.int .i64 (i+1)))]) (hp [.row 0 9 1 0 none (gE 4 es (Nat.add (Int.toNat i*4) 3) 0)]))) (fun a12=>f15 bot k a12)
 (fun e12=>k (qN e12))))))))))
 else (j1))))))
 else (k (.code (.exit 0) ((base 9 62).on [(0,(.osl 4 (es))),(1,(.osl 1 (ms))),(6,.nils),(7,.nils)]) Heap.empty)):=by kernel_rfl
theorem zz1 (X:TsX) (ih:Task→Res) {β:Type} (bot:β) (k:Res→β) (es ms:List V) (i:Int) (v1 n1:Nat) (l1:List V):evN PP EP CP (zO0 X) ih bot (.code (.loop (lpB PP 9 0)) ((base 9 62).on [(0,.osl 4 es),(1,.osl 1 ms),(6,.sl 0 v1 0 n1 none),(7,.nils),(8,.int .i64 i)]) (hp [rwT v1 l1])) k =
 bif decide (i<(↑(List.length es):Int)) then (jn (need bot (([V.nils]≠[])∧((1≤1099511627776)∧(24≤1099511627776))) (need bot ((-9223372036854775808≤0)∧((0:Int)≤9223372036854775807)) (need bot (((0:Int)≤0)∧((0:Int)<1)) (need bot ((0=0)∧(0=0)) (nX bot (i) (List.length es) (need bot (ldC PP 28 4 (es) (Nat.add (Int.toNat i*4) 3)) (bif qb0 (gE 4 es (Nat.add (Int.toNat i*4) 3) 0) then (need bot (((0:Int)≤0)∧((0:Int)<1)) (need bot ((0=0)∧((0=0)∧(0≤0))) (nI bot (i+1) (need bot (GndR (l1)) (need bot (GndR []) (PR.bnd bot (X.7 (.code (.loop (lpB PP 9 0)) ((base 9 62).on [(0,(.osl 4 (es))),(1,(.osl 1 (ms))),(6,(.sl 0 (v1) 0 (n1) none)),(7,(.sl 1 0 0 1 none)),(8,(.int .i64 (i+1)))]) (hp [.row (v1) 9 1 0 none (l1),.rowS 0 28 1 0 [] (.osl 1 [])]))) (fun a14=>f15 bot k a14)
 (fun e14=>k (qN e14))))))))
 else (need bot ((gE 4 es (Nat.add (Int.toNat i*4) 3) 0≠[])∧(((List.length (gE 4 es (Nat.add (Int.toNat i*4) 3) 0))≤1099511627776)∧((List.length (gE 4 es (Nat.add (Int.toNat i*4) 3) 0)*16)≤1099511627776))) (need bot (((0:Int)≤0)∧((0:Int)<1)) (need bot ((0=0)∧((0=0)∧(((List.length (gE 4 es (Nat.add (Int.toNat i*4) 3) 0))=(List.length (gE 4 es (Nat.add (Int.toNat i*4) 3) 0)))∧(GndR (gE 4 es (Nat.add (Int.toNat i*4) 3) 0))))) (need bot ((0=0)∧((0=0)∧(0≤0))) (nI bot (i+1) (need bot (GndR (l1)) (need bot (GndR []) (need bot (GndR (gE 4 es (Nat.add (Int.toNat i*4) 3) 0)) (PR.bnd bot (X.7 (.code (.loop (lpB PP 9 0)) ((base 9 62).on [(0,(.osl 4 (es))),(1,(.osl 1 (ms))),(6,(.sl 0 (v1) 0 (n1) none)),(7,(.sl 1 0 0 1 none)),(8,(.int .i64 (i+1)))]) (hp [.row (v1) 9 1 0 none (l1),.rowS 0 28 1 0 [] (.osl 1 (gE 4 es (Nat.add (Int.toNat i*4) 3) 0))]))) (fun a17=>f15 bot k a17)
 (fun e17=>k (qN e17))))))))))))))))))
 (fun j1:β=>bif decide ((↑(List.length ms):Int)≤i) then (j1)
 else (nX bot (i) (List.length ms) (need bot (ldC PP 4 1 (ms) (Int.toNat i*1)) (bif gB 1 ms (Int.toNat i*1) 0 then (need bot ((-9223372036854775808≤(-1))∧(((-1):Int)≤9223372036854775807)) (nX bot (i) (List.length es) (need bot (ldC PP 28 4 (es) (Nat.add (Int.toNat i*4) 3)) (bif qb0 (gE 4 es (Nat.add (Int.toNat i*4) 3) 0) then (nI bot (i+1) (need bot (GndR (l1)) (PR.bnd bot (X.7 (.code (.loop (lpB PP 9 0)) ((base 9 62).on [(0,(.osl 4 (es))),(1,(.osl 1 (ms))),(6,(.sl 0 (v1) 0 (n1) none)),(7,.nils),(8,(.int .i64 (i+1)))]) (hp [.row (v1) 9 1 0 none (l1)]))) (fun a11=>f15 bot k a11)
 (fun e11=>k (qN e11)))))
 else (need bot (((v1)=(v1))∧((gE 4 es (Nat.add (Int.toNat i*4) 3) 0≠[])∧(((n1)=(List.length l1))∧((0≤(n1))∧(((n1+List.length (gE 4 es (Nat.add (Int.toNat i*4) 3) 0))≤1099511627776)∧(((n1+List.length (gE 4 es (Nat.add (Int.toNat i*4) 3) 0))*16)≤1099511627776)))))) (nI bot (i+1) (need bot (GndR (l1++gE 4 es (Nat.add (Int.toNat i*4) 3) 0)) (PR.bnd bot (X.7 (.code (.loop (lpB PP 9 0)) ((base 9 62).on [(0,(.osl 4 (es))),(1,(.osl 1 (ms))),(6,(.sl 0 (Nat.succ v1) 0 (n1+List.length (gE 4 es (Nat.add (Int.toNat i*4) 3) 0)) none)),(7,.nils),(8,(.int .i64 (i+1)))]) (hp [.row (Nat.succ v1) 9 1 0 none (l1++gE 4 es (Nat.add (Int.toNat i*4) 3) 0)]))) (fun a12=>f15 bot k a12)
 (fun e12=>k (qN e12))))))))))
 else (j1))))))
 else (need bot (GndR (l1)) (need bot (GndR (l1)) (k (.code (.exit 0) ((base 9 62).on [(0,(.osl 4 (es))),(1,(.osl 1 (ms))),(6,(.sl 0 (v1) 0 (n1) none)),(7,.nils)]) (hp [.row (v1) 9 1 0 none (l1)]))))):=by kernel_rfl
theorem zy1 (X:TsX) (ih:Task→Res) {β:Type} (bot:β) (k:Res→β) (es ms:List V) (i:Int) (v2 n2:Nat) (l2 x:List V):evN PP EP CP (zO0 X) ih bot (.code (.loop (lpB PP 9 0)) ((base 9 62).on [(0,.osl 4 es),(1,.osl 1 ms),(6,.nils),(7,.sl 0 v2 0 n2 none),(8,.int .i64 i)]) (hp [rwO v2 l2 (.osl 1 x)])) k =
 bif decide (i<(↑(List.length es):Int)) then (jn (need bot (((v2)=(v2))∧((0=0)∧(((n2)=(List.length l2+1))∧((0≤(n2))∧(((n2+1)≤1099511627776)∧(((n2+1)*24)≤1099511627776)))))) (nI bot ((↑(Nat.add n2 1):Int)-1) (bif decide ((↑(Nat.add n2 1):Int)-1<0) then (nX bot (i) (List.length es) (need bot (ldC PP 28 4 (es) (Nat.add (Int.toNat i*4) 3)) (bif qb0 (gE 4 es (Nat.add (Int.toNat i*4) 3) 0) then (nI bot (i+1) (need bot (GndR (l2++[V.osl 1 x])) (PR.bnd bot (X.7 (.code (.loop (lpB PP 9 0)) ((base 9 62).on [(0,(.osl 4 (es))),(1,(.osl 1 (ms))),(6,.nils),(7,(.sl 0 (Nat.succ v2) 0 (Nat.add n2 1) none)),(8,(.int .i64 (i+1)))]) (hp [.rowS (Nat.succ v2) 28 1 0 (l2++[V.osl 1 x]) .nils]))) (fun a10=>f15 bot k a10)
 (fun e10=>k (qN e10)))))
 else (need bot ((gE 4 es (Nat.add (Int.toNat i*4) 3) 0≠[])∧(((List.length (gE 4 es (Nat.add (Int.toNat i*4) 3) 0))≤1099511627776)∧((List.length (gE 4 es (Nat.add (Int.toNat i*4) 3) 0)*16)≤1099511627776))) (nI bot (i+1) (need bot (GndR (l2++[V.osl 1 x])) (need bot (GndR (gE 4 es (Nat.add (Int.toNat i*4) 3) 0)) (PR.bnd bot (X.7 (.code (.loop (lpB PP 9 0)) ((base 9 62).on [(0,(.osl 4 (es))),(1,(.osl 1 (ms))),(6,(.sl 1 0 0 (List.length (gE 4 es (Nat.add (Int.toNat i*4) 3) 0)) none)),(7,(.sl 0 (Nat.succ v2) 0 (Nat.add n2 1) none)),(8,(.int .i64 (i+1)))]) (hp [.rowS (Nat.succ v2) 28 1 0 (l2++[V.osl 1 x]) .nils,.row 0 9 1 0 none (gE 4 es (Nat.add (Int.toNat i*4) 3) 0)]))) (fun a12=>f15 bot k a12)
 (fun e12=>k (qN e12))))))))))
 else (need bot (((0:Int)≤((↑(Nat.add n2 1):Int)-1))∧(((↑(Nat.add n2 1):Int)-1)<((↑(Nat.add n2 1):Int)))) (need bot (((Nat.succ v2)=(Nat.succ v2))∧(((0+Int.toNat ((↑(Nat.add n2 1):Int)-1))*1)=(List.length (l2++[V.osl 1 x])*1+0))) (nX bot (i) (List.length es) (need bot (ldC PP 28 4 (es) (Nat.add (Int.toNat i*4) 3)) (bif qb0 (gE 4 es (Nat.add (Int.toNat i*4) 3) 0) then (need bot (((0:Int)≤((↑(Nat.add n2 1):Int)-1))∧(((↑(Nat.add n2 1):Int)-1)<((↑(Nat.add n2 1):Int)))) (need bot (((Nat.succ v2)=(Nat.succ v2))∧((((0+Int.toNat ((↑(Nat.add n2 1):Int)-1))*1)=(List.length (l2++[V.osl 1 x])*1+0))∧(0≤(List.length (l2++[V.osl 1 x]))))) (nI bot (i+1) (need bot (GndR (l2++[V.osl 1 x])) (PR.bnd bot (X.7 (.code (.loop (lpB PP 9 0)) ((base 9 62).on [(0,(.osl 4 (es))),(1,(.osl 1 (ms))),(6,.nils),(7,(.sl 0 (Nat.succ v2) 0 (Nat.add n2 1) none)),(8,(.int .i64 (i+1)))]) (hp [.rowS (Nat.succ v2) 28 1 0 (l2++[V.osl 1 x]) (.osl 1 [])]))) (fun a14=>f15 bot k a14)
 (fun e14=>k (qN e14)))))))
 else (need bot ((gE 4 es (Nat.add (Int.toNat i*4) 3) 0≠[])∧(((List.length (gE 4 es (Nat.add (Int.toNat i*4) 3) 0))≤1099511627776)∧((List.length (gE 4 es (Nat.add (Int.toNat i*4) 3) 0)*16)≤1099511627776))) (need bot (((0:Int)≤((↑(Nat.add n2 1):Int)-1))∧(((↑(Nat.add n2 1):Int)-1)<((↑(Nat.add n2 1):Int)))) (need bot ((0=0)∧((0=0)∧(((List.length (gE 4 es (Nat.add (Int.toNat i*4) 3) 0))=(List.length (gE 4 es (Nat.add (Int.toNat i*4) 3) 0)))∧(GndR (gE 4 es (Nat.add (Int.toNat i*4) 3) 0))))) (need bot (((Nat.succ v2)=(Nat.succ v2))∧((((0+Int.toNat ((↑(Nat.add n2 1):Int)-1))*1)=(List.length (l2++[V.osl 1 x])*1+0))∧(0≤(List.length (l2++[V.osl 1 x]))))) (nI bot (i+1) (need bot (GndR (l2++[V.osl 1 x])) (need bot (GndR (gE 4 es (Nat.add (Int.toNat i*4) 3) 0)) (PR.bnd bot (X.7 (.code (.loop (lpB PP 9 0)) ((base 9 62).on [(0,(.osl 4 (es))),(1,(.osl 1 (ms))),(6,.nils),(7,(.sl 0 (Nat.succ v2) 0 (Nat.add n2 1) none)),(8,(.int .i64 (i+1)))]) (hp [.rowS (Nat.succ v2) 28 1 0 (l2++[V.osl 1 x]) (.osl 1 (gE 4 es (Nat.add (Int.toNat i*4) 3) 0))]))) (fun a17=>f15 bot k a17)
 (fun e17=>k (qN e17))))))))))))))))))
 (fun j1:β=>bif decide ((↑(List.length ms):Int)≤i) then (j1)
 else (nX bot (i) (List.length ms) (need bot (ldC PP 4 1 (ms) (Int.toNat i*1)) (bif gB 1 ms (Int.toNat i*1) 0 then (nI bot ((↑n2:Int)-1) (jn (PR.bnd bot (X.7 (.code (.loop (lpB PP 9 0)) ((base 9 62).on [(0,(.osl 4 (es))),(1,(.osl 1 (ms))),(6,.nils),(7,(.sl 0 (v2) 0 (n2) none)),(8,(.int .i64 (i+1)))]) (hp [.rowS (v2) 28 1 0 (l2) (.osl 1 (x))]))) (fun a12=>f15 bot k a12)
 (fun e12=>k (qN e12)))
 (fun j2:β=>bif decide ((↑n2:Int)-1<0) then (nX bot (i) (List.length es) (need bot (ldC PP 28 4 (es) (Nat.add (Int.toNat i*4) 3)) (bif qb0 (gE 4 es (Nat.add (Int.toNat i*4) 3) 0) then (nI bot (i+1) (need bot (GndR (l2)) (j2)))
 else (need bot ((gE 4 es (Nat.add (Int.toNat i*4) 3) 0≠[])∧(((List.length (gE 4 es (Nat.add (Int.toNat i*4) 3) 0))≤1099511627776)∧((List.length (gE 4 es (Nat.add (Int.toNat i*4) 3) 0)*16)≤1099511627776))) (nI bot (i+1) (need bot (GndR (l2)) (need bot (GndR (gE 4 es (Nat.add (Int.toNat i*4) 3) 0)) (PR.bnd bot (X.7 (.code (.loop (lpB PP 9 0)) ((base 9 62).on [(0,(.osl 4 (es))),(1,(.osl 1 (ms))),(6,(.sl 1 0 0 (List.length (gE 4 es (Nat.add (Int.toNat i*4) 3) 0)) none)),(7,(.sl 0 (v2) 0 (n2) none)),(8,(.int .i64 (i+1)))]) (hp [.rowS (v2) 28 1 0 (l2) (.osl 1 (x)),.row 0 9 1 0 none (gE 4 es (Nat.add (Int.toNat i*4) 3) 0)]))) (fun a14=>f15 bot k a14)
 (fun e14=>k (qN e14))))))))))
 else (need bot (((0:Int)≤((↑n2:Int)-1))∧(((↑n2:Int)-1)<((↑n2:Int)))) (need bot (((v2)=(v2))∧(((0+Int.toNat ((↑n2:Int)-1))*1)=(List.length l2*1+0))) (bif qb0 x then (nX bot (i) (List.length es) (need bot (ldC PP 28 4 (es) (Nat.add (Int.toNat i*4) 3)) (bif qb0 (gE 4 es (Nat.add (Int.toNat i*4) 3) 0) then (need bot (((0:Int)≤((↑n2:Int)-1))∧(((↑n2:Int)-1)<((↑n2:Int)))) (need bot (((v2)=(v2))∧((((0+Int.toNat ((↑n2:Int)-1))*1)=(List.length l2*1+0))∧(0≤(List.length l2)))) (nI bot (i+1) (need bot (GndR (l2)) (PR.bnd bot (X.7 (.code (.loop (lpB PP 9 0)) ((base 9 62).on [(0,(.osl 4 (es))),(1,(.osl 1 (ms))),(6,.nils),(7,(.sl 0 (v2) 0 (n2) none)),(8,(.int .i64 (i+1)))]) (hp [.rowS (v2) 28 1 0 (l2) (.osl 1 [])]))) (fun a17=>f15 bot k a17)
 (fun e17=>k (qN e17)))))))
 else (need bot ((gE 4 es (Nat.add (Int.toNat i*4) 3) 0≠[])∧(((List.length (gE 4 es (Nat.add (Int.toNat i*4) 3) 0))≤1099511627776)∧((List.length (gE 4 es (Nat.add (Int.toNat i*4) 3) 0)*16)≤1099511627776))) (need bot (((0:Int)≤((↑n2:Int)-1))∧(((↑n2:Int)-1)<((↑n2:Int)))) (need bot ((0=0)∧((0=0)∧(((List.length (gE 4 es (Nat.add (Int.toNat i*4) 3) 0))=(List.length (gE 4 es (Nat.add (Int.toNat i*4) 3) 0)))∧(GndR (gE 4 es (Nat.add (Int.toNat i*4) 3) 0))))) (need bot (((v2)=(v2))∧((((0+Int.toNat ((↑n2:Int)-1))*1)=(List.length l2*1+0))∧(0≤(List.length l2)))) (nI bot (i+1) (need bot (GndR (l2)) (need bot (GndR (gE 4 es (Nat.add (Int.toNat i*4) 3) 0)) (PR.bnd bot (X.7 (.code (.loop (lpB PP 9 0)) ((base 9 62).on [(0,(.osl 4 (es))),(1,(.osl 1 (ms))),(6,.nils),(7,(.sl 0 (v2) 0 (n2) none)),(8,(.int .i64 (i+1)))]) (hp [.rowS (v2) 28 1 0 (l2) (.osl 1 (gE 4 es (Nat.add (Int.toNat i*4) 3) 0))]))) (fun a20=>f15 bot k a20)
 (fun e20=>k (qN e20)))))))))))))
 else (need bot ((x≠[])∧(((List.length x)≤1099511627776)∧((List.length x*16)≤1099511627776))) (nX bot (i) (List.length es) (need bot (ldC PP 28 4 (es) (Nat.add (Int.toNat i*4) 3)) (bif qb0 (gE 4 es (Nat.add (Int.toNat i*4) 3) 0) then (need bot (((0:Int)≤((↑n2:Int)-1))∧(((↑n2:Int)-1)<((↑n2:Int)))) (need bot ((0=0)∧((0=0)∧(((List.length x)=(List.length x))∧(GndR (x))))) (need bot (((v2)=(v2))∧((((0+Int.toNat ((↑n2:Int)-1))*1)=(List.length l2*1+0))∧(0≤(List.length l2)))) (nI bot (i+1) (need bot (GndR (l2)) (need bot (GndR (x)) (j2)))))))
 else (need bot ((0=0)∧((gE 4 es (Nat.add (Int.toNat i*4) 3) 0≠[])∧(((List.length x)=(List.length x))∧((0≤(List.length x))∧(((List.length x+List.length (gE 4 es (Nat.add (Int.toNat i*4) 3) 0))≤1099511627776)∧(((List.length x+List.length (gE 4 es (Nat.add (Int.toNat i*4) 3) 0))*16)≤1099511627776)))))) (need bot (((0:Int)≤((↑n2:Int)-1))∧(((↑n2:Int)-1)<((↑n2:Int)))) (need bot ((1=1)∧((0=0)∧(((List.length x+List.length (gE 4 es (Nat.add (Int.toNat i*4) 3) 0))=(List.length (x++gE 4 es (Nat.add (Int.toNat i*4) 3) 0)))∧(GndR (x++gE 4 es (Nat.add (Int.toNat i*4) 3) 0))))) (need bot (((v2)=(v2))∧((((0+Int.toNat ((↑n2:Int)-1))*1)=(List.length l2*1+0))∧(0≤(List.length l2)))) (nI bot (i+1) (need bot (GndR (l2)) (need bot (GndR (x++gE 4 es (Nat.add (Int.toNat i*4) 3) 0)) (PR.bnd bot (X.7 (.code (.loop (lpB PP 9 0)) ((base 9 62).on [(0,(.osl 4 (es))),(1,(.osl 1 (ms))),(6,.nils),(7,(.sl 0 (v2) 0 (n2) none)),(8,(.int .i64 (i+1)))]) (hp [.rowS (v2) 28 1 0 (l2) (.osl 1 (x++gE 4 es (Nat.add (Int.toNat i*4) 3) 0))]))) (fun a21=>f15 bot k a21)
 (fun e21=>k (qN e21))))))))))))))))))))
 else (j1))))))
 else (need bot (GndR (l2)) (need bot (GndR (l2)) (k (.code (.exit 0) ((base 9 62).on [(0,(.osl 4 (es))),(1,(.osl 1 (ms))),(6,.nils),(7,(.sl 0 (v2) 0 (n2) none))]) (hp [.rowS (v2) 28 1 0 (l2) (.osl 1 (x))]))))):=by kernel_rfl
theorem zA1 (X:TsX) (ih:Task→Res) {β:Type} (bot:β) (k:Res→β) (es ms:List V) (i:Int) (v1 n1:Nat) (l1:List V) (v2 n2:Nat) (l2 x:List V):evN PP EP CP (zO0 X) ih bot (.code (.loop (lpB PP 9 0)) ((base 9 62).on [(0,.osl 4 es),(1,.osl 1 ms),(6,.sl 0 v1 0 n1 none),(7,.sl 1 v2 0 n2 none),(8,.int .i64 i)]) (hp [rwT v1 l1,rwO v2 l2 (.osl 1 x)])) k =
 bif decide (i<(↑(List.length es):Int)) then (jn (need bot (((v2)=(v2))∧((0=0)∧(((n2)=(List.length l2+1))∧((0≤(n2))∧(((n2+1)≤1099511627776)∧(((n2+1)*24)≤1099511627776)))))) (nI bot ((↑(Nat.add n2 1):Int)-1) (bif decide ((↑(Nat.add n2 1):Int)-1<0) then (nX bot (i) (List.length es) (need bot (ldC PP 28 4 (es) (Nat.add (Int.toNat i*4) 3)) (bif qb0 (gE 4 es (Nat.add (Int.toNat i*4) 3) 0) then (nI bot (i+1) (need bot (GndR (l1)) (need bot (GndR (l2++[V.osl 1 x])) (PR.bnd bot (X.7 (.code (.loop (lpB PP 9 0)) ((base 9 62).on [(0,(.osl 4 (es))),(1,(.osl 1 (ms))),(6,(.sl 0 (v1) 0 (n1) none)),(7,(.sl 1 (Nat.succ v2) 0 (Nat.add n2 1) none)),(8,(.int .i64 (i+1)))]) (hp [.row (v1) 9 1 0 none (l1),.rowS (Nat.succ v2) 28 1 0 (l2++[V.osl 1 x]) .nils]))) (fun a11=>f15 bot k a11)
 (fun e11=>k (qN e11))))))
 else (need bot (((v1)=(v1))∧((gE 4 es (Nat.add (Int.toNat i*4) 3) 0≠[])∧(((n1)=(List.length l1))∧((0≤(n1))∧(((n1+List.length (gE 4 es (Nat.add (Int.toNat i*4) 3) 0))≤1099511627776)∧(((n1+List.length (gE 4 es (Nat.add (Int.toNat i*4) 3) 0))*16)≤1099511627776)))))) (nI bot (i+1) (need bot (GndR (l1++gE 4 es (Nat.add (Int.toNat i*4) 3) 0)) (need bot (GndR (l2++[V.osl 1 x])) (PR.bnd bot (X.7 (.code (.loop (lpB PP 9 0)) ((base 9 62).on [(0,(.osl 4 (es))),(1,(.osl 1 (ms))),(6,(.sl 0 (Nat.succ v1) 0 (n1+List.length (gE 4 es (Nat.add (Int.toNat i*4) 3) 0)) none)),(7,(.sl 1 (Nat.succ v2) 0 (Nat.add n2 1) none)),(8,(.int .i64 (i+1)))]) (hp [.row (Nat.succ v1) 9 1 0 none (l1++gE 4 es (Nat.add (Int.toNat i*4) 3) 0),.rowS (Nat.succ v2) 28 1 0 (l2++[V.osl 1 x]) .nils]))) (fun a12=>f15 bot k a12)
 (fun e12=>k (qN e12))))))))))
 else (need bot (((0:Int)≤((↑(Nat.add n2 1):Int)-1))∧(((↑(Nat.add n2 1):Int)-1)<((↑(Nat.add n2 1):Int)))) (need bot (((Nat.succ v2)=(Nat.succ v2))∧(((0+Int.toNat ((↑(Nat.add n2 1):Int)-1))*1)=(List.length (l2++[V.osl 1 x])*1+0))) (nX bot (i) (List.length es) (need bot (ldC PP 28 4 (es) (Nat.add (Int.toNat i*4) 3)) (bif qb0 (gE 4 es (Nat.add (Int.toNat i*4) 3) 0) then (need bot (((0:Int)≤((↑(Nat.add n2 1):Int)-1))∧(((↑(Nat.add n2 1):Int)-1)<((↑(Nat.add n2 1):Int)))) (need bot (((Nat.succ v2)=(Nat.succ v2))∧((((0+Int.toNat ((↑(Nat.add n2 1):Int)-1))*1)=(List.length (l2++[V.osl 1 x])*1+0))∧(0≤(List.length (l2++[V.osl 1 x]))))) (nI bot (i+1) (need bot (GndR (l1)) (need bot (GndR (l2++[V.osl 1 x])) (PR.bnd bot (X.7 (.code (.loop (lpB PP 9 0)) ((base 9 62).on [(0,(.osl 4 (es))),(1,(.osl 1 (ms))),(6,(.sl 0 (v1) 0 (n1) none)),(7,(.sl 1 (Nat.succ v2) 0 (Nat.add n2 1) none)),(8,(.int .i64 (i+1)))]) (hp [.row (v1) 9 1 0 none (l1),.rowS (Nat.succ v2) 28 1 0 (l2++[V.osl 1 x]) (.osl 1 [])]))) (fun a15=>f15 bot k a15)
 (fun e15=>k (qN e15))))))))
 else (need bot ((gE 4 es (Nat.add (Int.toNat i*4) 3) 0≠[])∧(((List.length (gE 4 es (Nat.add (Int.toNat i*4) 3) 0))≤1099511627776)∧((List.length (gE 4 es (Nat.add (Int.toNat i*4) 3) 0)*16)≤1099511627776))) (need bot (((0:Int)≤((↑(Nat.add n2 1):Int)-1))∧(((↑(Nat.add n2 1):Int)-1)<((↑(Nat.add n2 1):Int)))) (need bot ((0=0)∧((0=0)∧(((List.length (gE 4 es (Nat.add (Int.toNat i*4) 3) 0))=(List.length (gE 4 es (Nat.add (Int.toNat i*4) 3) 0)))∧(GndR (gE 4 es (Nat.add (Int.toNat i*4) 3) 0))))) (need bot (((Nat.succ v2)=(Nat.succ v2))∧((((0+Int.toNat ((↑(Nat.add n2 1):Int)-1))*1)=(List.length (l2++[V.osl 1 x])*1+0))∧(0≤(List.length (l2++[V.osl 1 x]))))) (nI bot (i+1) (need bot (GndR (l1)) (need bot (GndR (l2++[V.osl 1 x])) (need bot (GndR (gE 4 es (Nat.add (Int.toNat i*4) 3) 0)) (PR.bnd bot (X.7 (.code (.loop (lpB PP 9 0)) ((base 9 62).on [(0,(.osl 4 (es))),(1,(.osl 1 (ms))),(6,(.sl 0 (v1) 0 (n1) none)),(7,(.sl 1 (Nat.succ v2) 0 (Nat.add n2 1) none)),(8,(.int .i64 (i+1)))]) (hp [.row (v1) 9 1 0 none (l1),.rowS (Nat.succ v2) 28 1 0 (l2++[V.osl 1 x]) (.osl 1 (gE 4 es (Nat.add (Int.toNat i*4) 3) 0))]))) (fun a18=>f15 bot k a18)
 (fun e18=>k (qN e18)))))))))))))))))))
 (fun j1:β=>bif decide ((↑(List.length ms):Int)≤i) then (j1)
 else (nX bot (i) (List.length ms) (need bot (ldC PP 4 1 (ms) (Int.toNat i*1)) (bif gB 1 ms (Int.toNat i*1) 0 then (nI bot ((↑n2:Int)-1) (jn (PR.bnd bot (X.7 (.code (.loop (lpB PP 9 0)) ((base 9 62).on [(0,(.osl 4 (es))),(1,(.osl 1 (ms))),(6,(.sl 0 (v1) 0 (n1) none)),(7,(.sl 1 (v2) 0 (n2) none)),(8,(.int .i64 (i+1)))]) (hp [.row (v1) 9 1 0 none (l1),.rowS (v2) 28 1 0 (l2) (.osl 1 (x))]))) (fun a13=>f15 bot k a13)
 (fun e13=>k (qN e13)))
 (fun j2:β=>bif decide ((↑n2:Int)-1<0) then (nX bot (i) (List.length es) (need bot (ldC PP 28 4 (es) (Nat.add (Int.toNat i*4) 3)) (bif qb0 (gE 4 es (Nat.add (Int.toNat i*4) 3) 0) then (nI bot (i+1) (need bot (GndR (l1)) (need bot (GndR (l2)) (j2))))
 else (need bot (((v1)=(v1))∧((gE 4 es (Nat.add (Int.toNat i*4) 3) 0≠[])∧(((n1)=(List.length l1))∧((0≤(n1))∧(((n1+List.length (gE 4 es (Nat.add (Int.toNat i*4) 3) 0))≤1099511627776)∧(((n1+List.length (gE 4 es (Nat.add (Int.toNat i*4) 3) 0))*16)≤1099511627776)))))) (nI bot (i+1) (need bot (GndR (l1++gE 4 es (Nat.add (Int.toNat i*4) 3) 0)) (need bot (GndR (l2)) (PR.bnd bot (X.7 (.code (.loop (lpB PP 9 0)) ((base 9 62).on [(0,(.osl 4 (es))),(1,(.osl 1 (ms))),(6,(.sl 0 (Nat.succ v1) 0 (n1+List.length (gE 4 es (Nat.add (Int.toNat i*4) 3) 0)) none)),(7,(.sl 1 (v2) 0 (n2) none)),(8,(.int .i64 (i+1)))]) (hp [.row (Nat.succ v1) 9 1 0 none (l1++gE 4 es (Nat.add (Int.toNat i*4) 3) 0),.rowS (v2) 28 1 0 (l2) (.osl 1 (x))]))) (fun a14=>f15 bot k a14)
 (fun e14=>k (qN e14))))))))))
 else (need bot (((0:Int)≤((↑n2:Int)-1))∧(((↑n2:Int)-1)<((↑n2:Int)))) (need bot (((v2)=(v2))∧(((0+Int.toNat ((↑n2:Int)-1))*1)=(List.length l2*1+0))) (bif qb0 x then (nX bot (i) (List.length es) (need bot (ldC PP 28 4 (es) (Nat.add (Int.toNat i*4) 3)) (bif qb0 (gE 4 es (Nat.add (Int.toNat i*4) 3) 0) then (need bot (((0:Int)≤((↑n2:Int)-1))∧(((↑n2:Int)-1)<((↑n2:Int)))) (need bot (((v2)=(v2))∧((((0+Int.toNat ((↑n2:Int)-1))*1)=(List.length l2*1+0))∧(0≤(List.length l2)))) (nI bot (i+1) (need bot (GndR (l1)) (need bot (GndR (l2)) (PR.bnd bot (X.7 (.code (.loop (lpB PP 9 0)) ((base 9 62).on [(0,(.osl 4 (es))),(1,(.osl 1 (ms))),(6,(.sl 0 (v1) 0 (n1) none)),(7,(.sl 1 (v2) 0 (n2) none)),(8,(.int .i64 (i+1)))]) (hp [.row (v1) 9 1 0 none (l1),.rowS (v2) 28 1 0 (l2) (.osl 1 [])]))) (fun a18=>f15 bot k a18)
 (fun e18=>k (qN e18))))))))
 else (need bot ((gE 4 es (Nat.add (Int.toNat i*4) 3) 0≠[])∧(((List.length (gE 4 es (Nat.add (Int.toNat i*4) 3) 0))≤1099511627776)∧((List.length (gE 4 es (Nat.add (Int.toNat i*4) 3) 0)*16)≤1099511627776))) (need bot (((0:Int)≤((↑n2:Int)-1))∧(((↑n2:Int)-1)<((↑n2:Int)))) (need bot ((0=0)∧((0=0)∧(((List.length (gE 4 es (Nat.add (Int.toNat i*4) 3) 0))=(List.length (gE 4 es (Nat.add (Int.toNat i*4) 3) 0)))∧(GndR (gE 4 es (Nat.add (Int.toNat i*4) 3) 0))))) (need bot (((v2)=(v2))∧((((0+Int.toNat ((↑n2:Int)-1))*1)=(List.length l2*1+0))∧(0≤(List.length l2)))) (nI bot (i+1) (need bot (GndR (l1)) (need bot (GndR (l2)) (need bot (GndR (gE 4 es (Nat.add (Int.toNat i*4) 3) 0)) (PR.bnd bot (X.7 (.code (.loop (lpB PP 9 0)) ((base 9 62).on [(0,(.osl 4 (es))),(1,(.osl 1 (ms))),(6,(.sl 0 (v1) 0 (n1) none)),(7,(.sl 1 (v2) 0 (n2) none)),(8,(.int .i64 (i+1)))]) (hp [.row (v1) 9 1 0 none (l1),.rowS (v2) 28 1 0 (l2) (.osl 1 (gE 4 es (Nat.add (Int.toNat i*4) 3) 0))]))) (fun a21=>f15 bot k a21)
 (fun e21=>k (qN e21))))))))))))))
 else (need bot ((x≠[])∧(((List.length x)≤1099511627776)∧((List.length x*16)≤1099511627776))) (nX bot (i) (List.length es) (need bot (ldC PP 28 4 (es) (Nat.add (Int.toNat i*4) 3)) (bif qb0 (gE 4 es (Nat.add (Int.toNat i*4) 3) 0) then (need bot (((0:Int)≤((↑n2:Int)-1))∧(((↑n2:Int)-1)<((↑n2:Int)))) (need bot ((0=0)∧((0=0)∧(((List.length x)=(List.length x))∧(GndR (x))))) (need bot (((v2)=(v2))∧((((0+Int.toNat ((↑n2:Int)-1))*1)=(List.length l2*1+0))∧(0≤(List.length l2)))) (nI bot (i+1) (need bot (GndR (l1)) (need bot (GndR (l2)) (need bot (GndR (x)) (j2))))))))
 else (need bot ((0=0)∧((gE 4 es (Nat.add (Int.toNat i*4) 3) 0≠[])∧(((List.length x)=(List.length x))∧((0≤(List.length x))∧(((List.length x+List.length (gE 4 es (Nat.add (Int.toNat i*4) 3) 0))≤1099511627776)∧(((List.length x+List.length (gE 4 es (Nat.add (Int.toNat i*4) 3) 0))*16)≤1099511627776)))))) (need bot (((0:Int)≤((↑n2:Int)-1))∧(((↑n2:Int)-1)<((↑n2:Int)))) (need bot ((1=1)∧((0=0)∧(((List.length x+List.length (gE 4 es (Nat.add (Int.toNat i*4) 3) 0))=(List.length (x++gE 4 es (Nat.add (Int.toNat i*4) 3) 0)))∧(GndR (x++gE 4 es (Nat.add (Int.toNat i*4) 3) 0))))) (need bot (((v2)=(v2))∧((((0+Int.toNat ((↑n2:Int)-1))*1)=(List.length l2*1+0))∧(0≤(List.length l2)))) (nI bot (i+1) (need bot (GndR (l1)) (need bot (GndR (l2)) (need bot (GndR (x++gE 4 es (Nat.add (Int.toNat i*4) 3) 0)) (PR.bnd bot (X.7 (.code (.loop (lpB PP 9 0)) ((base 9 62).on [(0,(.osl 4 (es))),(1,(.osl 1 (ms))),(6,(.sl 0 (v1) 0 (n1) none)),(7,(.sl 1 (v2) 0 (n2) none)),(8,(.int .i64 (i+1)))]) (hp [.row (v1) 9 1 0 none (l1),.rowS (v2) 28 1 0 (l2) (.osl 1 (x++gE 4 es (Nat.add (Int.toNat i*4) 3) 0))]))) (fun a22=>f15 bot k a22)
 (fun e22=>k (qN e22)))))))))))))))))))))
 else (j1))))))
 else (need bot (GndR (l1)) (need bot (GndR (l2)) (need bot (GndR (l1)) (need bot (GndR (l2)) (k (.code (.exit 0) ((base 9 62).on [(0,(.osl 4 (es))),(1,(.osl 1 (ms))),(6,(.sl 0 (v1) 0 (n1) none)),(7,(.sl 1 (v2) 0 (n2) none))]) (hp [.row (v1) 9 1 0 none (l1),.rowS (v2) 28 1 0 (l2) (.osl 1 (x))]))))))):=by kernel_rfl
theorem YM1 (X:TsX) (ih:Task→Res) {β:Type} (bot:β) (k:Res→β) (es ms:List V):evN PP EP CP (zO0 X) ih bot (.call 9 [.osl 4 es,.osl 1 ms] Heap.empty) k =
 PR.bnd bot (X.7 (.code (.loop (lpB PP 9 0)) ((base 9 62).on [(0,(.osl 4 (es))),(1,(.osl 1 (ms))),(6,.nils),(7,.nils),(8,(.int .i64 0))]) Heap.empty)) (fun a0 =>
 bif a0.u then (bif a0.s then (nG bot a0.v1 (a0.n1) a0.l1 (need bot (((a0.v2)=(a0.v2))∧((0=0)∧(((a0.n2)=(List.length (a0.l2++[V.osl 1 a0.x])))∧(GndR (a0.l2++[V.osl 1 a0.x]))))) (k (.ret (.tup [(.osl 1 (a0.l1)),(.osl 1 (a0.l2++[V.osl 1 a0.x]))]) Heap.empty))))
 else (nG bot a0.v1 (a0.n1) a0.l1 (k (.ret (.tup [(.osl 1 (a0.l1)),(.osl 1 [])]) Heap.empty))))
 else (bif a0.s then (need bot (((a0.v2)=(a0.v2))∧((0=0)∧(((a0.n2)=(List.length (a0.l2++[V.osl 1 a0.x])))∧(GndR (a0.l2++[V.osl 1 a0.x]))))) (k (.ret (.tup [(.osl 1 []),(.osl 1 (a0.l2++[V.osl 1 a0.x]))]) Heap.empty)))
 else (k (.ret (.tup [(.osl 1 []),(.osl 1 [])]) Heap.empty))))
 (fun e0=>k (qN e0)):=by kernel_rfl
theorem YN1 (X:TsX) (ih:Task→Res) {β:Type} (bot:β) (k:Res→β) (a b:List V):evN PP EP CP (zO0 X) ih bot (.call 10 [.osl 1 a,.osl 1 b] Heap.empty) k =
 bif !decide ((↑(List.length a):Int)=(↑(List.length b):Int)) then (k (.ret (.bool false) Heap.empty))
 else (PR.bnd bot (X.8 (.code (.loop (lpB PP 10 0)) ((base 10 26).on [(0,(.osl 1 (a))),(1,(.osl 1 (b))),(5,(.int .i64 0))]) Heap.empty)) (fun a1 =>
 k (.ret (.bool true) Heap.empty))
 (fun e1=>k (qN e1))):=by kernel_rfl
theorem zB1 (X:TsX) (ih:Task→Res) {β:Type} (bot:β) (k:Res→β) (a b:List V) (i:Int):evN PP EP CP (zO0 X) ih bot (.code (.loop (lpB PP 10 0)) ((base 10 26).on [(0,.osl 1 a),(1,.osl 1 b),(5,.int .i64 i)]) Heap.empty) k =
 bif decide (i<(↑(List.length a):Int)) then (nX bot (i) (List.length a) (need bot (ldX PP 9 1 (a) (Int.toNat i*1)) (nX bot (i) (List.length b) (need bot (ldX PP 9 1 (b) (Int.toNat i*1)) (bif !decide (gS 1 a (Int.toNat i*1) 0=gS 1 b (Int.toNat i*1) 0) then (k (.code .ret ((base 10 26).on [(0,(.osl 1 (a))),(1,(.osl 1 (b))),(4,(.bool false))]) Heap.empty))
 else (nI bot (i+1) (PR.bnd bot (X.8 (.code (.loop (lpB PP 10 0)) ((base 10 26).on [(0,(.osl 1 (a))),(1,(.osl 1 (b))),(5,(.int .i64 (i+1)))]) Heap.empty)) (fun a7 =>
 k (.code (.exit 0) ((base 10 26).on [(0,(.osl 1 (a7.1))),(1,(.osl 1 (a7.2)))]) Heap.empty))
 (fun e7=>k (qN e7)))))))))
 else (k (.code (.exit 0) ((base 10 26).on [(0,(.osl 1 (a))),(1,(.osl 1 (b)))]) Heap.empty)):=by kernel_rfl
theorem YP1 (X:TsX) (ih:Task→Res) {β:Type} (bot:β) (k:Res→β) (cs ds:List V):evN PP EP CP (zO0 X) ih bot (.call 6 [.osl 1 cs,.osl 1 ds] Heap.empty) k =
 PR.bnd bot (X.3 (.call 16 [(.osl 1 (cs))] Heap.empty)) (fun a0 =>
 PR.bnd bot (X.2 (.call 15 [(.osl 1 (a0))] Heap.empty)) (fun a1 =>
 PR.bnd bot (X.4 (.call 5 [(.str (a1))] Heap.empty)) (fun a2 =>
 bif !decide (a2.2.1=0) then (k (.ret (.str (a1)) Heap.empty))
 else (PR.bnd bot (X.9 (.code (.loop (lpB PP 6 0)) ((base 6 90).on [(1,(.osl 1 (ds))),(6,(.osl 2 (a2.1))),(9,(.gsl 1 [(.str [32]),(.str [10]),(.str [32,35,32,120,10]),(.str [10,35,32,121,92,10,32,122,10]),(.str [35,13,10]),(.str [32])] (some 6))),(10,(.str [])),(11,(.int .i64 0))]) Heap.empty)) (fun a4 =>
 bif decide (0<(↑(List.length a4.1):Int)) then (nI bot ((↑(List.length a4.1):Int)-1) (nX bot ((↑(List.length a4.1):Int)-1) (List.length a4.1) (need bot (ldC PP 5 1 (a4.1) (Int.toNat ((↑(List.length a4.1):Int)-1)*1)) (need bot (((0:Int)≤(gI 1 a4.1 (Int.toNat ((↑(List.length a4.1):Int)-1)*1) 0))∧((0:Int)<7)) (nI bot (gI 1 a4.1 (Int.toNat ((↑(List.length a4.1):Int)-1)*1) 0%7) (need bot (((0:Int)≤(gI 1 a4.1 (Int.toNat ((↑(List.length a4.1):Int)-1)*1) 0%7))∧((gI 1 a4.1 (Int.toNat ((↑(List.length a4.1):Int)-1)*1) 0%7)<7)) (need bot (ldC PP 9 1 [(.str []),(.str [10]),(.str [32,35,32,101,110,100]),(.str [32,35,32,101,110,100,10]),(.str [32,35,92]),(.str [32,35,32,101,92,13]),(.str [126])] (Int.toNat (gI 1 a4.1 (Int.toNat ((↑(List.length a4.1):Int)-1)*1) 0%7)*1)) (need bot ((List.length a4.2+List.length (gS 1 [V.str [],V.str [10],V.str [32,35,32,101,110,100],V.str [32,35,32,101,110,100,10],V.str [32,35,92],V.str [32,35,32,101,92,13],V.str [126]] (Int.toNat (gI 1 a4.1 (Int.toNat ((↑(List.length a4.1):Int)-1)*1) 0%7)*1) 0))≤1099511627776) (k (.ret (.str (a4.2++gS 1 [V.str [],V.str [10],V.str [32,35,32,101,110,100],V.str [32,35,32,101,110,100,10],V.str [32,35,92],V.str [32,35,32,101,92,13],V.str [126]] (Int.toNat (gI 1 a4.1 (Int.toNat ((↑(List.length a4.1):Int)-1)*1) 0%7)*1) 0)) Heap.empty))))))))))
 else (need bot (((0:Int)≤0)∧((0:Int)<7)) (need bot (ldC PP 9 1 [(.str []),(.str [10]),(.str [32,35,32,101,110,100]),(.str [32,35,32,101,110,100,10]),(.str [32,35,92]),(.str [32,35,32,101,92,13]),(.str [126])] 0) (need bot ((List.length a4.2+0)≤1099511627776) (k (.ret (.str (a4.2++[])) Heap.empty))))))
 (fun e4=>k (qN e4))))
 (fun _=>bot))
 (fun _=>bot))
 (fun _=>bot):=by kernel_rfl
theorem zD1 (X:TsX) (ih:Task→Res) {β:Type} (bot:β) (k:Res→β) (ds ts l:List V) (c:Nat) (w:List UInt8) (i:Int):evN PP EP CP (zO0 X) ih bot (.code (.loop (lpB PP 6 0)) ((base 6 90).on [(1,.osl 1 ds),(6,.osl 2 ts),(9,.gsl 1 l (some c)),(10,.str w),(11,.int .i64 i)]) Heap.empty) k =
 bif decide (i<(↑(List.length ts):Int)) then (nX bot (i) (List.length ts) (need bot (ldC PP 9 2 (ts) (Nat.add (Int.toNat i*2) 1)) (need bot ((List.length w+List.length (gS 2 ts (Nat.add (Int.toNat i*2) 1) 0))≤1099511627776) (jn (nI bot (i+1) (PR.bnd bot (X.9 (.code (.loop (lpB PP 6 0)) ((base 6 90).on [(1,(.osl 1 (ds))),(6,(.osl 2 (ts))),(9,(.gsl 1 (l) (some (c)))),(10,(.str (w++gS 2 ts (Nat.add (Int.toNat i*2) 1) 0))),(11,(.int .i64 (i+1)))]) Heap.empty)) (fun a13 =>
 k (.code (.exit 0) ((base 6 90).on [(1,(.osl 1 (a13.1))),(10,(.str (a13.2)))]) Heap.empty))
 (fun e13=>k (qN e13))))
 (fun j1:β=>bif decide (i<(↑(List.length ds):Int)) then (nX bot (i) (List.length ts) (need bot (ldC PP 3 2 (ts) (Int.toNat i*2)) (bif decide (gI 2 ts (Nat.add (Int.toNat i*2) 0) 0=1) then (nX bot (i) (List.length ds) (need bot (ldC PP 5 1 (ds) (Int.toNat i*1)) (need bot (((0:Int)≤(gI 1 ds (Int.toNat i*1) 0))∧((0:Int)<3)) (bif decide (gI 1 ds (Int.toNat i*1) 0%3=0) then (nX bot (i) (List.length ds) (need bot (ldC PP 5 1 (ds) (Int.toNat i*1)) (need bot (((0:Int)≤(gI 1 ds (Int.toNat i*1) 0))∧(((0:Int)<3)∧(((0:Int)≤(gI 1 ds (Int.toNat i*1) 0/3))∧((gI 1 ds (Int.toNat i*1) 0/3)≤255)))) (nI bot (gI 1 ds (Int.toNat i*1) 0/3) (need bot (((0:Int)≤(gI 1 ds (Int.toNat i*1) 0/3))∧((0:Int)<6)) (nX bot (gI 1 ds (Int.toNat i*1) 0/3%6) (List.length l) (need bot (ldC PP 9 1 (l) (Int.toNat (gI 1 ds (Int.toNat i*1) 0/3%6)*1)) (need bot ((List.length (w++gS 2 ts (Nat.add (Int.toNat i*2) 1) 0)+List.length (gS 1 l (Int.toNat (gI 1 ds (Int.toNat i*1) 0/3%6)*1) 0))≤1099511627776) (nI bot (i+1) (PR.bnd bot (X.9 (.code (.loop (lpB PP 6 0)) ((base 6 90).on [(1,(.osl 1 (ds))),(6,(.osl 2 (ts))),(9,(.gsl 1 (l) (some (c)))),(10,(.str (w++gS 2 ts (Nat.add (Int.toNat i*2) 1) 0++gS 1 l (Int.toNat (gI 1 ds (Int.toNat i*1) 0/3%6)*1) 0))),(11,(.int .i64 (i+1)))]) Heap.empty)) (fun a21 =>
 k (.code (.exit 0) ((base 6 90).on [(1,(.osl 1 (a21.1))),(10,(.str (a21.2)))]) Heap.empty))
 (fun e21=>k (qN e21))))))))))))
 else (j1)))))
 else (j1))))
 else (j1))))))
 else (k (.code (.exit 0) ((base 6 90).on [(1,(.osl 1 (ds))),(10,(.str (w)))]) Heap.empty)):=by kernel_rfl
theorem YO1 (X:TsX) (ih:Task→Res) {β:Type} (bot:β) (k:Res→β) (cs ds ms:List V):evN PP EP CP (zO0 X) ih bot (.call 3 [.osl 1 cs,.osl 1 ds,.osl 1 ms] Heap.empty) k =
 PR.bnd bot (X.2 (.call 6 [(.osl 1 (cs)),(.osl 1 (ds))] Heap.empty)) (fun a0 =>
 PR.bnd bot (X.4 (.call 5 [(.str (a0))] Heap.empty)) (fun a1 =>
 PR.bnd bot (X.5 (.call 7 [(.osl 2 (a1.1))] Heap.empty)) (fun a2 =>
 PR.bnd bot (X.6 (.call 8 [(.osl 4 (a2.2)),(.osl 1 (ms))] Heap.empty)) (fun a3 =>
 PR.bnd bot (X.6 (.call 9 [(.osl 4 (a2.2)),(.osl 1 (ms))] Heap.empty)) (fun a4 =>
 bif !decide ((↑(List.length a3.2):Int)=(↑(List.length a4.2):Int)) then (k (.ret (.bool false) Heap.empty))
 else (PR.bnd bot (X.1 (.call 10 [(.osl 1 (a3.1)),(.osl 1 (a4.1))] Heap.empty)) (fun a6 =>
 bif a6 then (PR.bnd bot (X.10 (.code (.loop (lpB PP 3 0)) ((base 3 70).on [(13,(.osl 1 (a3.2))),(15,(.osl 1 (a4.2))),(16,(.int .i64 0))]) Heap.empty)) (fun a8 =>
 k (.ret (.bool true) Heap.empty))
 (fun e8=>k (qN e8)))
 else (k (.ret (.bool false) Heap.empty)))
 (fun _=>bot)))
 (fun _=>bot))
 (fun _=>bot))
 (fun _=>bot))
 (fun _=>bot))
 (fun _=>bot):=by kernel_rfl
theorem zC1 (X:TsX) (ih:Task→Res) {β:Type} (bot:β) (k:Res→β) (xs ys:List V) (i:Int):evN PP EP CP (zO0 X) ih bot (.code (.loop (lpB PP 3 0)) ((base 3 70).on [(13,.osl 1 xs),(15,.osl 1 ys),(16,.int .i64 i)]) Heap.empty) k =
 bif decide (i<(↑(List.length xs):Int)) then (nX bot (i) (List.length xs) (need bot (ldX PP 28 1 (xs) (Int.toNat i*1)) (nX bot (i) (List.length ys) (need bot (ldX PP 28 1 (ys) (Int.toNat i*1)) (PR.bnd bot (X.1 (.call 10 [(.osl 1 (gE 1 xs (Int.toNat i*1) 0)),(.osl 1 (gE 1 ys (Int.toNat i*1) 0))] Heap.empty)) (fun a5 =>
 bif a5 then (nI bot (i+1) (PR.bnd bot (X.10 (.code (.loop (lpB PP 3 0)) ((base 3 70).on [(13,(.osl 1 (xs))),(15,(.osl 1 (ys))),(16,(.int .i64 (i+1)))]) Heap.empty)) (fun a8 =>
 k (.code (.exit 0) ((base 3 70).on []) Heap.empty))
 (fun e8=>k (qN e8))))
 else (k (.code .ret ((base 3 70).on [(6,(.bool false))]) Heap.empty)))
 (fun _=>bot))))))
 else (k (.code (.exit 0) ((base 3 70).on []) Heap.empty)):=by kernel_rfl
end Go.AM
