/-
  WHAT FUNCTIONS OF THE PROGRAM COME TO, told by the machine, and plain laws of it. No condition but what each theorem says of its arguments.
-/
import Derived.Test.YtjdahgihdceebaaGreatDoorFe9
namespace Go.AM
open Go.Proofs
set_option maxRecDepth 100000
set_option maxHeartbeats 4000000
/-- THE MAKER OF PROGRAMS: it ends, and its texts are no longer than told. -/
def GQ (es:List V) (m:Nat) (a:List V×Int×List UInt8):Prop:=a.1=es∧0≤a.2.1∧a.2.2.length≤m
theorem Rn.bndG {es:List V} {m:Nat} {ε:Type} {K:PmX→PR (List V×Int×List UInt8) ε} {f:List V×Int×List UInt8→Nat→Option Res} {g:ε→Nat→Option Res} {Q:Res→Prop} (h:Ok1 K (GQ es m)) (hf:∀ (g:Int) (t:List UInt8),0≤g→t.length≤m→Rn (f (es,g,t)) Q):Rn (fun n=>PR.bnd none (K (XM n)) (fun a=>f a n) (fun e=>g e n)) Q :=
 .bndO h fun ⟨e,g,t⟩ ⟨h1,h2,h3⟩=>by
  change e=es at h1
  subst h1
  exact hf g t h2 h3
theorem Rn.bndN {es:List V} {m:Int} {ε:Type} {K:PmX→PR (List V×Int×Int) ε} {f:List V×Int×Int→Nat→Option Res} {g:ε→Nat→Option Res} {Q:Res→Prop} (h:Ok1 K fun a=>a.1=es∧0≤a.2.1∧0≤a.2.2∧a.2.2<m) (hf:∀ (g:Int) (n:Int),0≤g→0≤n∧n<m→Rn (f (es,g,n)) Q):Rn (fun n=>PR.bnd none (K (XM n)) (fun a=>f a n) (fun e=>g e n)) Q :=
 .bndO h fun ⟨e,g,t⟩ ⟨h1,h2,h3⟩=>by
  change e=es at h1
  subst h1
  exact hf g t h2 h3
noncomputable def lGI:Res→List V×Int×Int
 | .ret v h=>(match dG h with
  | some p=>(p.1,p.2,vI v)
  | none=>([],0,0))
 | _=>([],0,0)
noncomputable def lGS:Res→List V×Int×List UInt8
 | .ret v h=>(match dG h with
  | some p=>(p.1,p.2,vS v)
  | none=>([],0,[]))
 | _=>([],0,[])
def Lit (l:List V):Prop:=∃ ws:List (List UInt8),l=ws.map V.str∧1≤ws.length∧∀ w,w∈ws→w.length≤8
theorem yC0 {l:List V} (h1:(l.map vS).map V.str=l) (h2:1≤l.length) (h3:(l.map vS).all (fun w=>decide (w.length≤8))=true):Lit l:=⟨l.map vS,h1.symm,by rw [List.length_map];exact h2,fun w hw=>of_decide_eq_true (List.all_eq_true.1 h3 w hw)⟩
section c
variable (c:List UInt8) (hc:(c.length:Int)≤9223372036854775807)
 include hc
theorem yn0 (g n:Int) (hg:0≤g) (hn:1≤n):Ok1 (fun X=>X.GI (.call 20 [.ptr 0 0 0,.int .i64 n] (hpG (c.map bV) g))) fun a=>a.1=c.map bV∧0≤a.2.1∧0≤a.2.2∧a.2.2<n:=by
 refine .tk (R:=rGI) (L:=lGI) (fun _=>rfl) (fun a=>by kernel_rfl) (Tk.by (.of (fun m=>KD1 (XM m) _ none some (c.map bV) g n) ?_))
 rw [List.length_map]
 refine Rn.dec (fun _=>Rn.ret ⟨(_,_,_),rfl,rfl,hg,Int.le_refl _,by show (0:Int)<n;omega⟩) (fun hlt=>?_)
 refine Rn.dec (fun _=>by omega) (fun _=>?_)
 refine Rn.nI (by omega) ?_
 refine Rn.nI (by omega) ?_
 rw [show g+1-1=g by omega]
 obtain ⟨z,hz⟩:∃ b:UInt8,(c.map bV)[g.toNat]?=some (bV b):=⟨_,zP0 (by omega)⟩
 obtain ⟨g1,g2,g3⟩:=Ga0 hz
 refine Rn.nX (by omega) ?_
 refine Rn.need g1 ?_
 rw [g3]
 have hb:=z.toNat_lt
 refine Rn.nI (by omega) ?_
 refine Rn.need (by omega) ?_
 exact Rn.ret ⟨(_,_,_),rfl,rfl,by show 0≤g+1;omega,Int.emod_nonneg _ (by omega),Int.emod_lt_of_pos _ (by omega)⟩
theorem yV0 (g:Int) (l:List V) (k:Nat) (hl:Lit l) (hg:0≤g):Ok1 (fun X=>X.GS (.call 34 [.ptr 0 0 0,.gsl 1 l (some k)] (hpG (c.map bV) g))) (GQ (c.map bV) 8):=by
 obtain ⟨ws,rfl,h1,h2⟩:=hl
 refine .tk (R:=rGS) (L:=lGS) (fun _=>rfl) (fun a=>by kernel_rfl) (Tk.by (.of (fun m=>ev_of (XM m) _ none some (c.map bV) g (ws.map V.str) k) ?_))
 rw [List.length_map]
 refine Rn.bndN (yn0 c hc g ws.length hg (by omega)) (fun g n hg hn=>?_)
 dsimp only
 obtain ⟨g1,g2,g3⟩:=zg1 (es:=ws.map V.str) (i:=n.toNat) (zP0 (by omega))
 refine Rn.nX (by omega) ?_
 refine Rn.need g2 ?_
 rw [g3]
 exact Rn.ret ⟨(_,_,_),rfl,rfl,hg,h2 _ (List.getElem_mem _)⟩
theorem zy1 (g:Int) (hg:0≤g):Ok1 (fun X=>X.GS (.call 37 [.ptr 0 0 0] (hpG (c.map bV) g))) (GQ (c.map bV) 8):=by
 refine .tk (R:=rGS) (L:=lGS) (fun _=>rfl) (fun a=>by kernel_rfl) (Tk.by (.of (fun m=>KC1 (XM m) _ none some (c.map bV) g) ?_))
 repeat' (first | refine Rn.dec (fun _=>?_) (fun _=>?_) | refine Rn.nI (by (try simp only [List.length_append,List.length_cons,List.length_nil]);omega) ?_ | refine Rn.need (by (try simp only [List.length_append,List.length_cons,List.length_nil]);omega) ?_ | refine Rn.join ?_ (fun _ hj=>?_) | assumption | ((with_reducible refine Rn.bndN (yn0 c hc _ _ ?_ ?_) (fun g n hg hn=>?_)) <;> try dsimp only) | ((with_reducible refine Rn.bndG (yV0 c hc _ _ _ ?_ ?_) (fun g t hg ht=>?_)) <;> try dsimp only) | exact yC0 rfl (by decide) (by decide) | omega | exact Rn.ret ⟨(_,_,_),rfl,rfl,by assumption,(by (try simp only []);omega)⟩)
theorem zI1 (g:Int) (hg:0≤g):Ok1 (fun X=>X.GS (.call 38 [.ptr 0 0 0] (hpG (c.map bV) g))) (GQ (c.map bV) 8):=by
 refine .tk (R:=rGS) (L:=lGS) (fun _=>rfl) (fun a=>by kernel_rfl) (Tk.by (.of (fun m=>KL1 (XM m) _ none some (c.map bV) g) ?_))
 repeat' (first | refine Rn.dec (fun _=>?_) (fun _=>?_) | refine Rn.nI (by (try simp only [List.length_append,List.length_cons,List.length_nil]);omega) ?_ | refine Rn.need (by (try simp only [List.length_append,List.length_cons,List.length_nil]);omega) ?_ | refine Rn.join ?_ (fun _ hj=>?_) | assumption | ((with_reducible refine Rn.bndN (yn0 c hc _ _ ?_ ?_) (fun g n hg hn=>?_)) <;> try dsimp only) | ((with_reducible refine Rn.bndG (yV0 c hc _ _ _ ?_ ?_) (fun g t hg ht=>?_)) <;> try dsimp only) | exact yC0 rfl (by decide) (by decide) | omega | exact Rn.ret ⟨(_,_,_),rfl,rfl,by assumption,(by (try simp only []);omega)⟩)
theorem Jb1 (d:Int) (m:Nat) (hm:m≤10000000) (hP:∀ g,0≤g→Ok1 (fun X=>X.GS (.call 21 [.ptr 0 0 0,.int .i64 d] (hpG (c.map bV) g))) (GQ (c.map bV) m)) (g:Int) (hg:0≤g):Ok1 (fun X=>X.GS (.call 72 [.ptr 0 0 0,.int .i64 d] (hpG (c.map bV) g))) (GQ (c.map bV) (2*m+4)):=by
 refine .tk (R:=rGS) (L:=lGS) (fun _=>rfl) (fun a=>by kernel_rfl) (Tk.by (.of (fun m=>Ko1 (XM m) _ none some (c.map bV) g d) ?_))
 repeat' (first | refine Rn.dec (fun _=>?_) (fun _=>?_) | refine Rn.nI (by (try simp only [List.length_append,List.length_cons,List.length_nil]);omega) ?_ | refine Rn.need (by (try simp only [List.length_append,List.length_cons,List.length_nil]);omega) ?_ | refine Rn.join ?_ (fun _ hj=>?_) | assumption | ((with_reducible refine Rn.bndN (yn0 c hc _ _ ?_ ?_) (fun g n hg hn=>?_)) <;> try dsimp only) | ((with_reducible refine Rn.bndG (yV0 c hc _ _ _ ?_ ?_) (fun g t hg ht=>?_)) <;> try dsimp only) | exact yC0 rfl (by decide) (by decide) | omega | ((with_reducible refine Rn.bndG (hP _ ?_) (fun g t hg ht=>?_)) <;> try dsimp only) | exact Rn.ret ⟨(_,_,_),rfl,rfl,by assumption,(by (try simp only [List.length_append,List.length_cons,List.length_nil]);omega)⟩)
theorem ZB1 (d:Int) (m:Nat) (hm:m≤10000000) (hd:-1000≤d∧d≤1000) (hP:∀ g,0≤g→Ok1 (fun X=>X.GS (.call 21 [.ptr 0 0 0,.int .i64 (d-1)] (hpG (c.map bV) g))) (GQ (c.map bV) m)) (g:Int) (hg:0≤g):Ok1 (fun X=>X.GS (.call 36 [.ptr 0 0 0,.int .i64 d] (hpG (c.map bV) g))) (GQ (c.map bV) (m+50)):=by
 refine .tk (R:=rGS) (L:=lGS) (fun _=>rfl) (fun a=>by kernel_rfl) (Tk.by (.of (fun m=>KN1 (XM m) _ none some (c.map bV) g d) ?_))
 repeat' (first | refine Rn.dec (fun _=>?_) (fun _=>?_) | refine Rn.nI (by (try simp only [List.length_append,List.length_cons,List.length_nil]);omega) ?_ | refine Rn.need (by (try simp only [List.length_append,List.length_cons,List.length_nil]);omega) ?_ | refine Rn.join ?_ (fun _ hj=>?_) | assumption | ((with_reducible refine Rn.bndN (yn0 c hc _ _ ?_ ?_) (fun g n hg hn=>?_)) <;> try dsimp only) | ((with_reducible refine Rn.bndG (yV0 c hc _ _ _ ?_ ?_) (fun g t hg ht=>?_)) <;> try dsimp only) | exact yC0 rfl (by decide) (by decide) | omega | ((with_reducible refine Rn.bndG (zy1 c hc _ ?_) (fun g t hg ht=>?_)) <;> try dsimp only) | ((with_reducible refine Rn.bndG (zI1 c hc _ ?_) (fun g t hg ht=>?_)) <;> try dsimp only) | ((with_reducible refine Rn.bndG (hP _ ?_) (fun g t hg ht=>?_)) <;> try dsimp only) | exact Rn.ret ⟨(_,_,_),rfl,rfl,by assumption,(by (try simp only [List.length_append,List.length_cons,List.length_nil]);omega)⟩)
end c
noncomputable def lOb (r:Res):List V×Int×Int×List UInt8:=match r with
 | .code _ _ h=>(match dG h with
  | some p=>(p.1,p.2,vI (slt r 1),vS (slt r 5))
  | none=>([],0,0,[]))
 | _=>([],0,0,[])
def OQ (es:List V) (m:Nat) (a:List V×Int×Int×List UInt8):Prop:=a.1=es∧0≤a.2.1∧a.2.2.2.length≤m
section c
variable (c:List UInt8) (hc:(c.length:Int)≤9223372036854775807)
 include hc
theorem zH2 (d:Int) (m:Nat) (hm:m≤10000000) (hP:∀ g,0≤g→Ok1 (fun X=>X.GS (.call 21 [.ptr 0 0 0,.int .i64 d] (hpG (c.map bV) g))) (GQ (c.map bV) m)) (hQ:∀ g,0≤g→Ok1 (fun X=>X.GS (.call 35 [.ptr 0 0 0,.int .i64 d] (hpG (c.map bV) g))) (GQ (c.map bV) m)) (n:Int) (hn:n≤2):∀ (k:Nat) (i g:Int) (w:List UInt8),0≤i→n+1-i≤k→0≤g→w.length+k*(20+2*m)≤200000000→Ok1 (fun X=>X.Ob (.code (.loop (lpB PP 71 0)) ((base 71 40).on [(0,.ptr 0 0 0),(1,.int .i64 d),(5,.str w),(6,.int .i64 n),(7,.int .i64 i)]) (hpG (c.map bV) g))) (OQ (c.map bV) (w.length+k*(20+2*m))):=by
 intro k
 induction k with
 | zero =>
  intro i g w hi hk hg hw
  refine .tk (R:=rOb (base 71 40)) (L:=lOb) (fun _=>rfl) (fun a=>by kernel_rfl) (Tk.by (.of (fun m=>jG1 (XM m) _ none some (c.map bV) g d w n i) ?_))
  refine Rn.dec (fun h=>by omega) (fun _=>?_)
  exact Rn.ret ⟨(_,_,_,_),rfl,rfl,hg,by show w.length≤_;omega⟩
 | succ k IH =>
  intro i g w hi hk hg hw
  rw [Nat.add_mul] at hw
  have fin:∀ (w2:List UInt8),w2.length≤w.length+(20+2*m)→∀ a,OQ (c.map bV) (w2.length+k*(20+2*m)) a→Rn (fun _=>some (.code (.exit 0) ((base 71 40).on [(0,.ptr 0 0 0),(1,.int .i64 a.2.2.1),(5,.str a.2.2.2)]) (hpG a.1 a.2.1))) (fun r=>∃ a,r=rOb (base 71 40) a∧OQ (c.map bV) (w.length+(k+1)*(20+2*m)) a):=fun w2 h2 ⟨a1,a2,a3,a4⟩ ⟨p1,p2,p3⟩=>Rn.ret ⟨(_,_,_,_),rfl,p1,p2,by rw [Nat.add_mul];show a4.length≤_;have:a4.length≤_:=p3;omega⟩
  refine .tk (R:=rOb (base 71 40)) (L:=lOb) (fun _=>rfl) (fun a=>by kernel_rfl) (Tk.by (.of (fun m=>jG1 (XM m) _ none some (c.map bV) g d w n i) ?_))
  refine Rn.dec (fun _=>?_) (fun _=>Rn.ret ⟨(_,_,_,_),rfl,rfl,hg,by show w.length≤_;omega⟩)
  refine Rn.dec (fun _=>?_) (fun _=>?_)
  ·repeat' (first | refine Rn.dec (fun _=>?_) (fun _=>?_) | refine Rn.nI (by (try simp only [List.length_append,List.length_cons,List.length_nil]);omega) ?_ | refine Rn.need (by (try simp only [List.length_append,List.length_cons,List.length_nil]);omega) ?_ | refine Rn.join ?_ (fun _ hj=>?_) | assumption | ((with_reducible refine Rn.bndN (yn0 c hc _ _ ?_ ?_) (fun g n hg hn=>?_)) <;> try dsimp only) | ((with_reducible refine Rn.bndG (yV0 c hc _ _ _ ?_ ?_) (fun g t hg ht=>?_)) <;> try dsimp only) | exact yC0 rfl (by decide) (by decide) | omega | ((with_reducible refine Rn.bndG (hP _ ?_) (fun g t hg ht=>?_)) <;> try dsimp only) | ((with_reducible refine Rn.bndG (hQ _ ?_) (fun g t hg ht=>?_)) <;> try dsimp only) | (with_reducible refine Rn.bndO (IH (i+1) _ _ ?_ ?_ ?_ ?_) (fin _ ?_)) | (simp only [List.length_append,List.length_cons,List.length_nil];omega))
  ·repeat' (first | refine Rn.dec (fun _=>?_) (fun _=>?_) | refine Rn.nI (by (try simp only [List.length_append,List.length_cons,List.length_nil]);omega) ?_ | refine Rn.need (by (try simp only [List.length_append,List.length_cons,List.length_nil]);omega) ?_ | refine Rn.join ?_ (fun _ hj=>?_) | assumption | ((with_reducible refine Rn.bndN (yn0 c hc _ _ ?_ ?_) (fun g n hg hn=>?_)) <;> try dsimp only) | ((with_reducible refine Rn.bndG (yV0 c hc _ _ _ ?_ ?_) (fun g t hg ht=>?_)) <;> try dsimp only) | exact yC0 rfl (by decide) (by decide) | omega | ((with_reducible refine Rn.bndG (hP _ ?_) (fun g t hg ht=>?_)) <;> try dsimp only) | ((with_reducible refine Rn.bndG (hQ _ ?_) (fun g t hg ht=>?_)) <;> try dsimp only) | (with_reducible refine Rn.bndO (IH (i+1) _ _ ?_ ?_ ?_ ?_) (fin _ ?_)) | (simp only [List.length_append,List.length_cons,List.length_nil];omega))
theorem zI2 (d:Int) (m:Nat) (hm:m≤10000000) (hP:∀ g,0≤g→Ok1 (fun X=>X.GS (.call 21 [.ptr 0 0 0,.int .i64 d] (hpG (c.map bV) g))) (GQ (c.map bV) m)) (hQ:∀ g,0≤g→Ok1 (fun X=>X.GS (.call 35 [.ptr 0 0 0,.int .i64 d] (hpG (c.map bV) g))) (GQ (c.map bV) m)) (g:Int) (hg:0≤g):Ok1 (fun X=>X.GS (.call 71 [.ptr 0 0 0,.int .i64 d] (hpG (c.map bV) g))) (GQ (c.map bV) (6*m+70)):=by
 refine .tk (R:=rGS) (L:=lGS) (fun _=>rfl) (fun a=>by kernel_rfl) (Tk.by (.of (fun m=>KG1 (XM m) _ none some (c.map bV) g d) ?_))
 refine Rn.bndN (yn0 c hc g 3 hg (by omega)) (fun g n hg hn=>?_)
 dsimp only
 refine Rn.bndO (zH2 c hc d m hm hP hQ n (by omega) 3 0 g _ (by omega) (by omega) hg (by simp only [List.length_cons,List.length_nil];omega)) (fun ⟨a1,a2,a3,a4⟩ ⟨p1,p2,p3⟩=>?_)
 dsimp only
 have p3:a4.length≤1+3*(20+2*m):=p3
 refine Rn.need (by omega) ?_
 exact Rn.ret ⟨(_,_,_),rfl,p1,p2,(by (try simp only [List.length_append,List.length_cons,List.length_nil]);omega)⟩
theorem yk2 (d:Int) (m:Nat) (hm:m≤1000000) (h8:8≤m) (hd:-900≤d∧d≤900) (hP:∀ g,0≤g→Ok1 (fun X=>X.GS (.call 21 [.ptr 0 0 0,.int .i64 (d-1)] (hpG (c.map bV) g))) (GQ (c.map bV) m)) (hP2:∀ g,0≤g→Ok1 (fun X=>X.GS (.call 21 [.ptr 0 0 0,.int .i64 (d-1-1)] (hpG (c.map bV) g))) (GQ (c.map bV) m)) (hQ:∀ g,0≤g→Ok1 (fun X=>X.GS (.call 35 [.ptr 0 0 0,.int .i64 (d-1)] (hpG (c.map bV) g))) (GQ (c.map bV) m)) (g:Int) (hg:0≤g):Ok1 (fun X=>X.GS (.call 21 [.ptr 0 0 0,.int .i64 d] (hpG (c.map bV) g))) (GQ (c.map bV) (10*m+200)):=by
 have hT:=ZB1 c hc (d-1) m (by omega) (by omega) hP2
 refine .tk (R:=rGS) (L:=lGS) (fun _=>rfl) (fun a=>by kernel_rfl) (Tk.by (.of (fun m=>jL1 (XM m) _ none some (c.map bV) g d) ?_))
 repeat' (first | refine Rn.dec (fun _=>?_) (fun _=>?_) | refine Rn.nI (by (try simp only [List.length_append,List.length_cons,List.length_nil]);omega) ?_ | refine Rn.need (by (try simp only [List.length_append,List.length_cons,List.length_nil]);omega) ?_ | refine Rn.join ?_ (fun _ hj=>?_) | assumption | ((with_reducible refine Rn.bndN (yn0 c hc _ _ ?_ ?_) (fun g n hg hn=>?_)) <;> try dsimp only) | ((with_reducible refine Rn.bndG (yV0 c hc _ _ _ ?_ ?_) (fun g t hg ht=>?_)) <;> try dsimp only) | exact yC0 rfl (by decide) (by decide) | omega | ((with_reducible refine Rn.bndG (zy1 c hc _ ?_) (fun g t hg ht=>?_)) <;> try dsimp only) | ((with_reducible refine Rn.bndG (zI1 c hc _ ?_) (fun g t hg ht=>?_)) <;> try dsimp only) | ((with_reducible refine Rn.bndG (hP _ ?_) (fun g t hg ht=>?_)) <;> try dsimp only) | ((with_reducible refine Rn.bndG (hQ _ ?_) (fun g t hg ht=>?_)) <;> try dsimp only) | ((with_reducible refine Rn.bndG (hT _ ?_) (fun g t hg ht=>?_)) <;> try dsimp only) | exact Rn.ret ⟨(_,_,_),rfl,rfl,by assumption,(by (try simp only [List.length_append,List.length_cons,List.length_nil]);omega)⟩)
theorem yp2 (d:Int) (m:Nat) (hm:m≤1000000) (h8:8≤m) (hd:-900≤d∧d≤900) (hP:∀ g,0≤g→Ok1 (fun X=>X.GS (.call 21 [.ptr 0 0 0,.int .i64 (d-1)] (hpG (c.map bV) g))) (GQ (c.map bV) m)) (hP2:∀ g,0≤g→Ok1 (fun X=>X.GS (.call 21 [.ptr 0 0 0,.int .i64 (d-1-1)] (hpG (c.map bV) g))) (GQ (c.map bV) m)) (hQ:∀ g,0≤g→Ok1 (fun X=>X.GS (.call 35 [.ptr 0 0 0,.int .i64 (d-1)] (hpG (c.map bV) g))) (GQ (c.map bV) m)) (g:Int) (hg:0≤g):Ok1 (fun X=>X.GS (.call 35 [.ptr 0 0 0,.int .i64 d] (hpG (c.map bV) g))) (GQ (c.map bV) (10*m+200)):=by
 have hT:=ZB1 c hc (d-1) m (by omega) (by omega) hP2
 have hA:=Jb1 c hc (d-1) m (by omega) hP
 have hO:=zI2 c hc (d-1) m (by omega) hP hQ
 refine .tk (R:=rGS) (L:=lGS) (fun _=>rfl) (fun a=>by kernel_rfl) (Tk.by (.of (fun m=>jM1 (XM m) _ none some (c.map bV) g d) ?_))
 repeat' (first | refine Rn.dec (fun _=>?_) (fun _=>?_) | refine Rn.nI (by (try simp only [List.length_append,List.length_cons,List.length_nil]);omega) ?_ | refine Rn.need (by (try simp only [List.length_append,List.length_cons,List.length_nil]);omega) ?_ | refine Rn.join ?_ (fun _ hj=>?_) | assumption | ((with_reducible refine Rn.bndN (yn0 c hc _ _ ?_ ?_) (fun g n hg hn=>?_)) <;> try dsimp only) | ((with_reducible refine Rn.bndG (yV0 c hc _ _ _ ?_ ?_) (fun g t hg ht=>?_)) <;> try dsimp only) | exact yC0 rfl (by decide) (by decide) | omega | ((with_reducible refine Rn.bndG (zy1 c hc _ ?_) (fun g t hg ht=>?_)) <;> try dsimp only) | ((with_reducible refine Rn.bndG (zI1 c hc _ ?_) (fun g t hg ht=>?_)) <;> try dsimp only) | ((with_reducible refine Rn.bndG (hP _ ?_) (fun g t hg ht=>?_)) <;> try dsimp only) | ((with_reducible refine Rn.bndG (hQ _ ?_) (fun g t hg ht=>?_)) <;> try dsimp only) | ((with_reducible refine Rn.bndG (hT _ ?_) (fun g t hg ht=>?_)) <;> try dsimp only) | ((with_reducible refine Rn.bndG (hA _ ?_) (fun g t hg ht=>?_)) <;> try dsimp only) | ((with_reducible refine Rn.bndG (hO _ ?_) (fun g t hg ht=>?_)) <;> try dsimp only) | exact Rn.ret ⟨(_,_,_),rfl,rfl,by assumption,(by (try simp only [List.length_append,List.length_cons,List.length_nil]);omega)⟩)
end c
def bdM:Nat→Nat
 | 0=>8
 | n+1=>10*bdM n+200
theorem bdM_4:∀ n,n≤4→bdM n≤1000000:=by decide
theorem yG1:∀ n,n≤5→8≤bdM n:=by decide
theorem GQ.weak {es:List V} {m m':Nat} {K:PmX→PR (List V×Int×List UInt8) Int} (h:Ok1 K (GQ es m)) (hm:m≤m'):Ok1 K (GQ es m'):=h.weak fun _ ⟨a,b,c⟩=>⟨a,b,Nat.le_trans c hm⟩
noncomputable def lS4 (r:Res):List V×List UInt8:=(zW0 (slt r 0),vS (slt r 4))
section c
variable (c:List UInt8) (hc:(c.length:Int)≤9223372036854775807)
 include hc
theorem pipe_0 (d:Int) (h0:d≤0) (g:Int) (hg:0≤g):Ok1 (fun X=>X.GS (.call 21 [.ptr 0 0 0,.int .i64 d] (hpG (c.map bV) g))) (GQ (c.map bV) 8):=by
 refine .tk (R:=rGS) (L:=lGS) (fun _=>rfl) (fun a=>by kernel_rfl) (Tk.by (.of (fun m=>jL1 (XM m) _ none some (c.map bV) g d) ?_))
 refine Rn.join ?_ (fun j1 hj1=>Rn.dec (fun _=>hj1) (fun h=>absurd h0 h))
 repeat' (first | refine Rn.dec (fun _=>?_) (fun _=>?_) | refine Rn.nI (by (try simp only [List.length_append,List.length_cons,List.length_nil]);omega) ?_ | refine Rn.need (by (try simp only [List.length_append,List.length_cons,List.length_nil]);omega) ?_ | refine Rn.join ?_ (fun _ hj=>?_) | assumption | ((with_reducible refine Rn.bndN (yn0 c hc _ _ ?_ ?_) (fun g n hg hn=>?_)) <;> try dsimp only) | ((with_reducible refine Rn.bndG (yV0 c hc _ _ _ ?_ ?_) (fun g t hg ht=>?_)) <;> try dsimp only) | exact yC0 rfl (by decide) (by decide) | omega | exact Rn.ret ⟨(_,_,_),rfl,rfl,by assumption,(by (try simp only []);omega)⟩)
theorem post_0 (d:Int) (h0:d≤0) (g:Int) (hg:0≤g):Ok1 (fun X=>X.GS (.call 35 [.ptr 0 0 0,.int .i64 d] (hpG (c.map bV) g))) (GQ (c.map bV) 8):=by
 refine .tk (R:=rGS) (L:=lGS) (fun _=>rfl) (fun a=>by kernel_rfl) (Tk.by (.of (fun m=>jM1 (XM m) _ none some (c.map bV) g d) ?_))
 refine Rn.dec (fun _=>?_) (fun h=>absurd h0 h)
 repeat' (first | refine Rn.dec (fun _=>?_) (fun _=>?_) | refine Rn.nI (by (try simp only [List.length_append,List.length_cons,List.length_nil]);omega) ?_ | refine Rn.need (by (try simp only [List.length_append,List.length_cons,List.length_nil]);omega) ?_ | refine Rn.join ?_ (fun _ hj=>?_) | assumption | ((with_reducible refine Rn.bndN (yn0 c hc _ _ ?_ ?_) (fun g n hg hn=>?_)) <;> try dsimp only) | ((with_reducible refine Rn.bndG (yV0 c hc _ _ _ ?_ ?_) (fun g t hg ht=>?_)) <;> try dsimp only) | exact yC0 rfl (by decide) (by decide) | omega | exact Rn.ret ⟨(_,_,_),rfl,rfl,by assumption,(by (try simp only []);omega)⟩)
theorem made:∀ (n:Nat),n≤5→∀ (d:Int),d≤(n:Int)→3*(n:Int)-100≤d→∀ g,0≤g→Ok1 (fun X=>X.GS (.call 21 [.ptr 0 0 0,.int .i64 d] (hpG (c.map bV) g))) (GQ (c.map bV) (bdM n))∧Ok1 (fun X=>X.GS (.call 35 [.ptr 0 0 0,.int .i64 d] (hpG (c.map bV) g))) (GQ (c.map bV) (bdM n)):=by
 intro n
 induction n with
 | zero=>intro _ d h1 h2 g hg;exact ⟨pipe_0 c hc d h1 g hg,post_0 c hc d h1 g hg⟩
 | succ n IH =>
  intro hn d h1 h2 g hg
  have I1:=IH (by omega) (d-1) (by omega) (by omega)
  have I2:=IH (by omega) (d-1-1) (by omega) (by omega)
  exact ⟨yk2 c hc d (bdM n) (bdM_4 n (by omega)) (yG1 n (by omega)) (by omega) (fun g hg=>(I1 g hg).1) (fun g hg=>(I2 g hg).1) (fun g hg=>(I1 g hg).2) g hg,
   yp2 c hc d (bdM n) (bdM_4 n (by omega)) (yG1 n (by omega)) (by omega) (fun g hg=>(I1 g hg).1) (fun g hg=>(I2 g hg).1) (fun g hg=>(I1 g hg).2) g hg⟩
theorem QH2:Ok1 (fun X=>X.W (.call 10 [.osl 1 (c.map bV)] Heap.empty)) fun a=>a.length≤20000000:=by
 refine .tk (R:=rW) (L:=lW) (fun _=>rfl) (fun a=>rfl) (Tk.by (.of (fun m=>KV1 (XM m) _ none some (c.map bV)) ?_))
 have h5:∀ g,0≤g→Ok1 (fun X=>X.GS (.call 21 [.ptr 0 0 0,.int .i64 5] (hpG (c.map bV) g))) (GQ (c.map bV) 4000000):=fun g hg=>GQ.weak (made c hc 5 (Nat.le_refl _) 5 (by omega) (by omega) g hg).1 (by decide)
 have h3:∀ g,0≤g→Ok1 (fun X=>X.GS (.call 21 [.ptr 0 0 0,.int .i64 3] (hpG (c.map bV) g))) (GQ (c.map bV) 4000000):=fun g hg=>GQ.weak (made c hc 5 (Nat.le_refl _) 3 (by omega) (by omega) g hg).1 (by decide)
 repeat' (first | refine Rn.dec (fun _=>?_) (fun _=>?_) | refine Rn.nI (by (try simp only [List.length_append,List.length_cons,List.length_nil]);omega) ?_ | refine Rn.need (by (try simp only [List.length_append,List.length_cons,List.length_nil]);omega) ?_ | refine Rn.join ?_ (fun _ hj=>?_) | assumption | ((with_reducible refine Rn.bndN (yn0 c hc _ _ ?_ ?_) (fun g n hg hn=>?_)) <;> try dsimp only) | ((with_reducible refine Rn.bndG (yV0 c hc _ _ _ ?_ ?_) (fun g t hg ht=>?_)) <;> try dsimp only) | exact yC0 rfl (by decide) (by decide) | omega | ((with_reducible refine Rn.bndG (h5 _ ?_) (fun g t hg ht=>?_)) <;> try dsimp only) | ((with_reducible refine Rn.bndG (h3 _ ?_) (fun g t hg ht=>?_)) <;> try dsimp only) | exact Rn.ret ⟨_,rfl,(by (try simp only [List.length_append,List.length_cons,List.length_nil]);omega)⟩)
theorem Qs2:Ok1 (fun X=>X.E (.call 11 [.osl 1 (c.map bV)] Heap.empty)) fun a=>∃ c':List UInt8,a=c'.map bV∧c'.length≤60:=by
 refine .tk (R:=rE) (L:=lE 1) (fun _=>rfl) (fun a=>rfl) (Tk.by (.of (fun m=>KT1 (XM m) _ none some (c.map bV)) ?_))
 rw [List.length_map]
 refine Rn.need (by omega) ?_
 exact Rn.ret ⟨_,rfl,c.take (Int.toNat (min (c.length:Int) 60)),by rw [List.map_take],by rw [List.length_take];omega⟩
theorem QF2 (l:List V) (k:Nat) (hl:Lit l):∀ (d:Nat) (i:Int) (w:List UInt8),0≤i→60-i≤d→w.length≤8*i→i≤60→Ok1 (fun X=>X.S4 (.code (.loop (lpB PP 12 0)) ((base 12 31).on [(0,.osl 1 (c.map bV)),(3,.gsl 1 l (some k)),(4,.str w),(5,.int .i64 i)]) Heap.empty)) fun a=>a.2.length≤1000:=by
 have _:=hc
 obtain ⟨ws,rfl,h1,h2⟩:=hl
 intro d
 induction d with
 | zero =>
  intro i w hi hd hw h60
  refine .tk (R:=rS4 (base 12 31)) (L:=lS4) (fun _=>rfl) (fun a=>by kernel_rfl) (Tk.by (.of (fun m=>jO1 (XM m) _ none some (c.map bV) (ws.map V.str) k w i) ?_))
  refine Rn.dec (fun _=>?_) (fun _=>Rn.ret ⟨(_,_),rfl,by show w.length≤1000;omega⟩)
  exact Rn.dec (fun h=>by omega) (fun _=>Rn.ret ⟨(_,_),rfl,by show w.length≤1000;omega⟩)
 | succ d IH =>
  intro i w hi hd hw h60
  refine .tk (R:=rS4 (base 12 31)) (L:=lS4) (fun _=>rfl) (fun a=>by kernel_rfl) (Tk.by (.of (fun m=>jO1 (XM m) _ none some (c.map bV) (ws.map V.str) k w i) ?_))
  rw [List.length_map,List.length_map]
  refine Rn.dec (fun _=>?_) (fun _=>Rn.ret ⟨(_,_),rfl,by show w.length≤1000;omega⟩)
  refine Rn.dec (fun _=>?_) (fun _=>Rn.ret ⟨(_,_),rfl,by show w.length≤1000;omega⟩)
  obtain ⟨z,hz⟩:∃ b:UInt8,(c.map bV)[i.toNat]?=some (bV b):=⟨_,zP0 (by omega)⟩
  obtain ⟨g1,g2,g3⟩:=Ga0 hz
  have hb:=z.toNat_lt
  refine Rn.nX (by omega) ?_
  refine Rn.need g2 ?_
  rw [g3]
  refine Rn.nI (by omega) ?_
  refine Rn.need (by omega) ?_
  have m0:=Int.emod_nonneg (z.toNat:Int) (show (ws.length:Int)≠0 by omega)
  have m1:=Int.emod_lt_of_pos (z.toNat:Int) (show 0<(ws.length:Int) by omega)
  obtain ⟨w2,hw2,hl2⟩:∃ w2,(ws.map V.str)[((z.toNat:Int)%(ws.length:Int)).toNat]?=some (.str w2)∧w2.length≤8:=⟨_,zP0 (by omega),h2 _ (List.getElem_mem _)⟩
  obtain ⟨q1,q2,q3⟩:=zg1 hw2
  refine Rn.nX ⟨m0,m1⟩ ?_
  refine Rn.need q2 ?_
  rw [q3]
  refine Rn.need (by omega) ?_
  refine Rn.nI (by omega) ?_
  exact Rn.bndO (IH (i+1) (w++w2) (by omega) (by omega) (by rw [List.length_append];omega) (by omega)) (fun ⟨a1,a2⟩ h=>Rn.ret ⟨(_,_),rfl,h⟩)
theorem QG2:Ok1 (fun X=>X.W (.call 12 [.osl 1 (c.map bV)] Heap.empty)) fun a=>a.length≤1000:=by
 refine .tk (R:=rW) (L:=lW) (fun _=>rfl) (fun a=>rfl) (Tk.by (.of (fun m=>KW1 (XM m) _ none some (c.map bV)) ?_))
 exact Rn.bndO (QF2 c hc _ 37 (yC0 rfl (by decide) (by decide)) 60 0 [] (by omega) (by omega) (by simp) (by omega)) (fun a h=>Rn.ret ⟨_,rfl,h⟩)
end c
/-- ITEMS, NOTES: what rows of them hold. -/
def IS (b:Int) (n:Nat) (l:List V):Prop:=∃ its:List It,l=its.map itV∧n=its.length∧(its.length:Int)≤b∧∀ x,x∈its→x.w≠[]∧x.w.length≤65536∧∃ ws:List (List UInt8),x.ns=ws.map V.str∧(ws.length:Int)≤b
def SS (b:Int) (n:Nat) (l:List V):Prop:=∃ ws:List (List UInt8),l=ws.map V.str∧n=ws.length∧(ws.length:Int)≤b
theorem IS.gnd {b:Int} {n:Nat} {l:List V} (h:IS b n l):GndR l:=by obtain ⟨ts,rfl,_⟩:=h;exact KK0 ts
theorem SS.gnd {b:Int} {n:Nat} {l:List V} (h:SS b n l):GndR l:=by obtain ⟨ts,rfl,_⟩:=h;exact Yk0 ts
theorem IS.len {b:Int} {n:Nat} {l:List V} (h:IS b n l):n=l.length∧(n:Int)≤b:=by obtain ⟨ts,rfl,rfl,h,_⟩:=h;exact ⟨by rw [List.length_map],h⟩
theorem SS.len {b:Int} {n:Nat} {l:List V} (h:SS b n l):n=l.length∧(n:Int)≤b:=by obtain ⟨ts,rfl,rfl,h⟩:=h;exact ⟨by rw [List.length_map],h⟩
theorem SS.mono {a b:Int} {n:Nat} {l:List V} (h:SS a n l) (hab:a≤b):SS b n l:=by obtain ⟨ts,h1,h2,h3⟩:=h;exact ⟨ts,h1,h2,by omega⟩
theorem IS.mono {a b:Int} {n:Nat} {l:List V} (h:IS a n l) (hab:a≤b):IS b n l:=by
 obtain ⟨ts,h1,h2,h3,h4⟩:=h
 exact ⟨ts,h1,h2,by omega,fun x hx=>by obtain ⟨p,q,ws,r,s⟩:=h4 x hx;exact ⟨p,q,ws,r,by omega⟩⟩
theorem SS.push {b:Int} {n:Nat} {l:List V} (h:SS b n l) (w:List UInt8):SS (b+1) (n+1) (l++[V.str w]):=by
 obtain ⟨ts,rfl,rfl,h3⟩:=h
 exact ⟨ts++[w],by rw [List.map_append];rfl,by simp,by simp;omega⟩
theorem SS.one {b:Int} (hb:0≤b) (w:List UInt8):SS (b+1) 1 [V.str w]:=⟨[w],rfl,rfl,by simp;omega⟩
theorem IS.push {b:Int} {n:Nat} {l:List V} (h:IS b n l) (hb:0≤b) (k:Int) {w:List UInt8} (hw:w≠[]∧w.length≤65536) (g:Int):IS (b+1) (n+1) (l++[V.agg [V.int IntKind.i64 k,V.str w,V.int IntKind.i64 g,V.osl 1 []]]):=by
 obtain ⟨ts,rfl,rfl,h3,h4⟩:=h
 refine ⟨ts++[⟨k,w,g,[]⟩],by rw [List.map_append];rfl,by simp,by simp;omega,fun x hx=>?_⟩
 rcases List.mem_append.1 hx with h | h
 ·obtain ⟨p,q,ws,r,s⟩:=h4 x h;exact ⟨p,q,ws,r,by omega⟩
 ·rw [List.mem_singleton] at h;rw [h];exact ⟨hw.1,hw.2,[],rfl,by simp;omega⟩
theorem IS.nil {b:Int} (hb:0≤b):IS b 0 []:=⟨[],rfl,rfl,hb,fun x hx=>by cases hx⟩
theorem IS.one {b:Int} (hb:0≤b) (k:Int) {w:List UInt8} (hw:w≠[]∧w.length≤65536) (g:Int):IS (b+1) 1 [V.agg [V.int IntKind.i64 k,V.str w,V.int IntKind.i64 g,V.osl 1 []]]:=(IS.nil hb).push hb k hw g
theorem Qn2 {its:List It} {k:Nat} (hk:k<its.length) (y:It):List.setN (itV y) (its.map itV) k=(its.set k y).map itV:=by rw [List.setN_eq,List.map_set]
theorem IS.note {b:Int} {n:Nat} {l:List V} (h:IS b n l) (hn:1≤n):∃ ws:List (List UInt8),gE 4 l (Int.toNat ((n:Int)-1)*4+3) 0=ws.map V.str∧(ws.length:Int)≤b∧ldX PP 42 4 l (Int.toNat ((n:Int)-1)*4+3)∧∀ ws':List (List UInt8),(ws'.length:Int)≤b+1→stX PP 42 (.osl 1 (ws'.map V.str)) 0 4 l (Int.toNat ((n:Int)-1)*4+3)∧IS (b+1) n (qY0 4 l (Int.toNat ((n:Int)-1)*4+3) (.osl 1 (ws'.map V.str))):=by
 obtain ⟨ts,rfl,rfl,h3,h4⟩:=h
 obtain ⟨k,hk,e⟩:∃ k,k<ts.length∧Int.toNat ((ts.length:Int)-1)=k:=⟨ts.length-1,by omega,by omega⟩
 rw [e]
 have hx:=zP0 (f:=itV) hk
 obtain ⟨p,q,ws,r,s⟩:=h4 _ (List.getElem_mem hk)
 have hg:gE 4 (ts.map itV) (k*4+3) 0=ts[k].ns:=by unfold gE;rw [yy0 (by omega) hx];rfl
 have h1:(k*4+3)/4=k:=by omega
 have h2:(k*4+3)%4=3:=by omega
 have hgd:(ts.map itV).getD k undef=itV ts[k]:=by rw [List.getD_eq_getElem?_getD,hx];rfl
 refine ⟨ws,by rw [hg,r],s,?_,fun ws' hw'=>⟨⟨rfl,by kernel_rfl,Nat.zero_le _,by decide,by rw [h1,List.length_map];exact hk,?_⟩,?_⟩⟩
 ·have he:zk0 PP 42 4 (ts.map itV) (k*4+3)=some (.osl 1 (gE 4 (ts.map itV) (k*4+3) 0)):=by kernel_rfl
  unfold ldX;rw [he,hg]
  change yt0 PP 42 (zg0 4 _ (k*4+3) 1)=_
  rw [Ya0 (by omega) (by omega) (show 3+1≤4 by omega) hx]
  first | kernel_rfl | rfl
 ·rw [h1,h2,hgd]
  intro e;cases e
 ·have hs:qY0 4 (ts.map itV) (k*4+3) (.osl 1 (ws'.map V.str))=(ts.set k { ts[k] with ns:=ws'.map V.str }).map itV:=by
   unfold qY0
   rw [h1,h2,hgd,← Qn2 hk]
   rfl
  rw [hs]
  refine ⟨_,rfl,by rw [List.length_set],by rw [List.length_set];omega,fun x hx=>?_⟩
  rcases List.mem_or_eq_of_mem_set hx with h | h
  ·obtain ⟨p,q,ws,r,s⟩:=h4 x h;exact ⟨p,q,ws,r,by omega⟩
  ·rw [h];exact ⟨p,q,ws',rfl,hw'⟩
theorem Gr0 (k:Int) (w:List UInt8):Ok1 (fun X=>X.O (.call 39 [.agg [.int .i64 k,.str w]] Heap.empty)) fun a=>a=true→k≠2 :=
 .tk (R:=rO) (L:=lO) (fun _=>rfl) (fun _=>rfl) (Tk.by (.of (fun m=>KS1 (XM m) _ none some k w) (by
  repeat' (first | refine Rn.dec (fun _=>?_) (fun _=>?_) | refine Rn.ndec (fun _=>?_) (fun _=>?_) | exact Rn.ret ⟨_,rfl,fun _=>by omega⟩ | exact Rn.ret ⟨_,rfl,fun e=>by cases e⟩))))
noncomputable def lIx:Res→Ix
 | .code _ fr h=>(match fr.tm.get undef 4 with
  | .sl _ v1 _ n1 _=>(match fr.tm.get undef 5 with
   | .sl _ v2 _ n2 _=>⟨zW0 (fr.tm.get undef 0),true,v1,n1,zA0 (h.get 0),true,v2,n2,zA0 (h.get 1)⟩
   | _=>⟨zW0 (fr.tm.get undef 0),true,v1,n1,zA0 (h.get 0),false,0,0,[]⟩)
  | _=>(match fr.tm.get undef 5 with
   | .sl _ v2 _ n2 _=>⟨zW0 (fr.tm.get undef 0),false,0,0,[],true,v2,n2,zA0 (h.get 0)⟩
   | _=>⟨zW0 (fr.tm.get undef 0),false,0,0,[],false,0,0,[]⟩))
 | _=>⟨[],false,0,0,[],false,0,0,[]⟩
def nIx (a:Ix):Ix:=bif a.b1 then (bif a.b2 then ⟨a.es,true,a.v1,a.n1,a.l1,true,a.v2,a.n2,a.l2⟩ else ⟨a.es,true,a.v1,a.n1,a.l1,false,0,0,[]⟩) else (bif a.b2 then ⟨a.es,false,0,0,[],true,a.v2,a.n2,a.l2⟩ else ⟨a.es,false,0,0,[],false,0,0,[]⟩)
theorem Zu0 (a:Ix):lIx (rIx (base 22 93) a.b1 a.b2 a)=nIx a:=by
 obtain ⟨es,b1,v1,n1,l1,b2,v2,n2,l2⟩:=a
 cases b1 <;> cases b2 <;> kernel_rfl
def PI (es:List V) (a:Ix):Prop:=a.es=es∧(a.b1=true→SS 65536 a.n1 a.l1)∧(a.b2=true→IS 65536 a.n2 a.l2)
theorem PI.n {es:List V}:∀ a,PI es (nIx a)→PI es a:=fun ⟨e,b1,v1,n1,l1,b2,v2,n2,l2⟩ ⟨h1,h2,h3⟩=>by
 cases b1 <;> cases b2
 ·exact ⟨h1,(fun e=>by cases e),fun e=>by cases e⟩
 ·exact ⟨h1,(fun e=>by cases e),h3⟩
 ·exact ⟨h1,h2,fun e=>by cases e⟩
 ·exact ⟨h1,h2,h3⟩
abbrev PIr (es:List V) (r:Res):Prop:=∃ a,r=rIx (base 22 93) a.b1 a.b2 a∧PI es (nIx a)
theorem zX0 {es:List V} (a:Ix) (ha:PI es a):Rn (fun _=>bif a.b1 then (bif a.b2 then (need none (GndR a.l1) (need none (GndR a.l2) (some (.code (.exit 0) ((base 22 93).on [(0,.osl 2 a.es),(4,.sl 0 a.v1 0 a.n1 none),(5,.sl 1 a.v2 0 a.n2 none)]) (hp [.row a.v1 9 1 0 none a.l1,.row a.v2 59 4 0 none a.l2]))))) else (need none (GndR a.l1) (some (.code (.exit 0) ((base 22 93).on [(0,.osl 2 a.es),(4,.sl 0 a.v1 0 a.n1 none),(5,.nils)]) (hp [.row a.v1 9 1 0 none a.l1]))))) else (bif a.b2 then (need none (GndR a.l2) (some (.code (.exit 0) ((base 22 93).on [(0,.osl 2 a.es),(4,.nils),(5,.sl 0 a.v2 0 a.n2 none)]) (hp [.row a.v2 59 4 0 none a.l2])))) else (some (.code (.exit 0) ((base 22 93).on [(0,.osl 2 a.es),(4,.nils),(5,.nils)]) Heap.empty)))) (PIr es):=by
 obtain ⟨e,b1,v1,n1,l1,b2,v2,n2,l2⟩:=a
 obtain ⟨h1,h2,h3⟩:=ha
 refine Rn.cond (fun hb1=>?_) (fun hb1=>?_)
 ·have g1:=h2 hb1
  refine Rn.cond (fun hb2=>?_) (fun hb2=>?_)
  ·have g2:=h3 hb2
   exact Rn.need g1.gnd (Rn.need g2.gnd (Rn.ret ⟨⟨e,true,v1,n1,l1,true,v2,n2,l2⟩,rfl,h1,fun _=>g1,fun _=>g2⟩))
  ·exact Rn.need g1.gnd (Rn.ret ⟨⟨e,true,v1,n1,l1,false,0,0,[]⟩,rfl,h1,(fun _=>g1),fun e=>by cases e⟩)
 ·refine Rn.cond (fun hb2=>?_) (fun hb2=>?_)
  ·have g2:=h3 hb2
   exact Rn.need g2.gnd (Rn.ret ⟨⟨e,false,0,0,[],true,v2,n2,l2⟩,rfl,h1,(fun e=>by cases e),fun _=>g2⟩)
  ·exact Rn.ret ⟨⟨e,false,0,0,[],false,0,0,[]⟩,rfl,h1,(fun e=>by cases e),fun e=>by cases e⟩
theorem QE1 (ts:List (Int×List UInt8)) (hts:ts.length≤65536) (hg:∀ t,t∈ts→t.2≠[]∧t.2.length≤65536):∀ (d:Nat) (i g:Int) (v1 n1:Nat) (l1:List V) (v2 n2:Nat) (l2:List V),0≤i→i≤ts.length→(ts.length:Int)-i≤d→0≤g→g≤65536*i→SS i n1 l1→IS i n2 l2→1≤n2→Ok1 (fun X=>X.Ix (.code (.loop (lpB PP 22 0)) ((base 22 93).on [(0,.osl 2 (ts.map qN0)),(4,.sl 0 v1 0 n1 none),(5,.sl 1 v2 0 n2 none),(6,.int .i64 g),(7,.int .i64 i)]) (hp [strR v1 l1,QO0 v2 l2]))) (PI (ts.map qN0)):=by
 intro d
 induction d with
 | zero =>
  intro i g v1 n1 l1 v2 n2 l2  q0 q1 q2 q3 q4 h1 h2 h3
  refine .nrm (R:=fun a=>rIx (base 22 93) a.b1 a.b2 a) (L:=lIx) (N:=nIx) (fun _=>rfl) Zu0 PI.n (Tk.by (.of (fun m=>jC1 (XM m) _ none some (ts.map qN0) g i v1 n1 l1 v2 n2 l2) ?_))
  rw [List.length_map]
  refine Rn.dec (fun h=>absurd h (by omega)) (fun _=>?_)
  (repeat refine Rn.need (by first | exact h1.gnd | exact h2.gnd) ?_);exact Rn.ret ⟨⟨_,true,v1,n1,l1,true,v2,n2,l2⟩,rfl,rfl,(fun _=>h1.mono (by omega)),fun _=>h2.mono (by omega)⟩
 | succ d IH =>
  intro i g v1 n1 l1 v2 n2 l2  q0 q1 q2 q3 q4 h1 h2 h3
  refine .nrm (R:=fun a=>rIx (base 22 93) a.b1 a.b2 a) (L:=lIx) (N:=nIx) (fun _=>rfl) Zu0 PI.n (Tk.by (.of (fun m=>jC1 (XM m) _ none some (ts.map qN0) g i v1 n1 l1 v2 n2 l2) ?_))
  rw [List.length_map]
  refine Rn.dec (fun hi=>?_) (fun _=>?_)
  case refine_2=>(repeat refine Rn.need (by first | exact h1.gnd | exact h2.gnd) ?_);exact Rn.ret ⟨⟨_,true,v1,n1,l1,true,v2,n2,l2⟩,rfl,rfl,(fun _=>h1.mono (by omega)),fun _=>h2.mono (by omega)⟩
  obtain ⟨t,hx,htw⟩:∃ t:Int×List UInt8,(ts.map qN0)[i.toNat]?=some (qN0 t)∧t.2≠[]∧t.2.length≤65536:=⟨_,zP0 (by omega),hg _ (List.getElem_mem _)⟩
  obtain ⟨g1,g2,g3⟩:=YK0 hx
  have hK:=GT0 hx
  have hW:=GV0 hx
  have hL:=(GU0 hx).2
  have hp1:=h1.push t.2
  have hl1:=h1.len
  have hg1:=h1.gnd
  have hgp1:=hp1.gnd
  have hp2:=h2.push q0 t.1 htw g
  have hl2:=h2.len
  have hg2:=h2.gnd
  have hgp2:=hp2.gnd
  obtain ⟨ws,w1,w2,w3,w4⟩:=h2.note h3
  have w5:ws.map V.str++[V.str t.2]=(ws++[t.2]).map V.str:=by rw [List.map_append];rfl
  have u1:=w4 [t.2] (by simp;omega)
  have u2:=w4 (ws++[t.2]) (by simp;omega)
  have ug1:=u1.2.gnd
  have ug2:=u2.2.gnd
  have ug3:=Yk0 (ws++[t.2])
  have ug4:GndR [V.str t.2]:=Yk0 [t.2]
  have u1a:stX PP 42 (.osl 1 [V.str t.2]) 0 4 l2 _:=u1.1
  have u2a:=u2.1
  have u1b:IS (i+1) n2 (qY0 4 l2 _ (.osl 1 [V.str t.2])):=u1.2
  have u1g:=u1b.gnd
  have u2b:=u2.2
  have hn0:¬ ((n2:Int)=0):=by omega
  have hnp:0<(n2:Int):=by omega
  simp only [Nat.add_eq,Nat.add_zero,Nat.zero_add,List.length_cons,List.length_nil,List.length_append,g1,g2,g3,w1,w5]
  refine Rn.nX (by omega) ?_
  refine Rn.need hL ?_
  refine Rn.bndO (Gr0 t.1 t.2) (fun b hb=>?_)
  refine Rn.cond (fun hbt=>?_) (fun hbf=>?_)
  ·have hb:=hb hbt
   repeat' (first | (with_reducible assumption) | refine Rn.dec (fun h=>absurd h hb) (fun _=>?_) | refine Rn.dec (fun h=>absurd h hn0) (fun _=>?_) | refine Rn.dec (fun _=>?_) (fun h=>absurd hnp h) | refine Rn.dec (fun _=>?_) (fun _=>?_) | refine Rn.nX (by omega) ?_ | refine Rn.nI (by omega) ?_ | refine Rn.join ?_ (fun _ hj=>?_) | refine Rn.need ?_ ?_ | (with_reducible refine Rn.bndO (IH (i+1) _ _ _ _ _ _ _ ?_ ?_ ?_ ?_ ?_ ?_ ?_ ?_) zX0) | refine Rn.cond (fun _=>?_) (fun _=>?_) | (with_reducible exact hp1) | (with_reducible exact (h1.mono (by omega))) | (with_reducible exact hp2) | (with_reducible exact (h2.mono (by omega))) | exact trivial | (with_reducible rfl) | refine And.intro ?_ ?_ | omega | exact List.cons_ne_nil _ _ | exact jk0 (by assumption) | (simp only [List.length_cons,List.length_nil,List.length_append,List.length_map] <;> omega))
  ·repeat' (first | (with_reducible assumption) | refine Rn.dec (fun h=>absurd h hn0) (fun _=>?_) | refine Rn.dec (fun _=>?_) (fun h=>absurd hnp h) | refine Rn.dec (fun _=>?_) (fun _=>?_) | refine Rn.nX (by omega) ?_ | refine Rn.nI (by omega) ?_ | refine Rn.join ?_ (fun _ hj=>?_) | refine Rn.need ?_ ?_ | (with_reducible refine Rn.bndO (IH (i+1) _ _ _ _ _ _ _ ?_ ?_ ?_ ?_ ?_ ?_ ?_ ?_) zX0) | refine Rn.cond (fun _=>?_) (fun _=>?_) | (with_reducible exact hp1) | (with_reducible exact (h1.mono (by omega))) | (with_reducible exact hp2) | (with_reducible exact (h2.mono (by omega))) | exact trivial | (with_reducible rfl) | refine And.intro ?_ ?_ | omega | exact List.cons_ne_nil _ _ | exact jk0 (by assumption) | (simp only [List.length_cons,List.length_nil,List.length_append,List.length_map] <;> omega))
theorem QC1 (ts:List (Int×List UInt8)) (hts:ts.length≤65536) (hg:∀ t,t∈ts→t.2≠[]∧t.2.length≤65536):∀ (d:Nat) (i g:Int) (v2 n2:Nat) (l2:List V),0≤i→i≤ts.length→(ts.length:Int)-i≤d→0≤g→g≤65536*i→IS i n2 l2→1≤n2→Ok1 (fun X=>X.Ix (.code (.loop (lpB PP 22 0)) ((base 22 93).on [(0,.osl 2 (ts.map qN0)),(4,.nils),(5,.sl 0 v2 0 n2 none),(6,.int .i64 g),(7,.int .i64 i)]) (hp [QO0 v2 l2]))) (PI (ts.map qN0)):=by
 intro d
 induction d with
 | zero =>
  intro i g v2 n2 l2  q0 q1 q2 q3 q4 h2 h3
  refine .nrm (R:=fun a=>rIx (base 22 93) a.b1 a.b2 a) (L:=lIx) (N:=nIx) (fun _=>rfl) Zu0 PI.n (Tk.by (.of (fun m=>jA1 (XM m) _ none some (ts.map qN0) g i v2 n2 l2) ?_))
  rw [List.length_map]
  refine Rn.dec (fun h=>absurd h (by omega)) (fun _=>?_)
  (repeat refine Rn.need h2.gnd ?_);exact Rn.ret ⟨⟨_,false,0,0,[],true,v2,n2,l2⟩,rfl,rfl,(fun e=>by cases e),fun _=>h2.mono (by omega)⟩
 | succ d IH =>
  intro i g v2 n2 l2  q0 q1 q2 q3 q4 h2 h3
  refine .nrm (R:=fun a=>rIx (base 22 93) a.b1 a.b2 a) (L:=lIx) (N:=nIx) (fun _=>rfl) Zu0 PI.n (Tk.by (.of (fun m=>jA1 (XM m) _ none some (ts.map qN0) g i v2 n2 l2) ?_))
  rw [List.length_map]
  refine Rn.dec (fun hi=>?_) (fun _=>?_)
  case refine_2=>(repeat refine Rn.need h2.gnd ?_);exact Rn.ret ⟨⟨_,false,0,0,[],true,v2,n2,l2⟩,rfl,rfl,(fun e=>by cases e),fun _=>h2.mono (by omega)⟩
  obtain ⟨t,hx,htw⟩:∃ t:Int×List UInt8,(ts.map qN0)[i.toNat]?=some (qN0 t)∧t.2≠[]∧t.2.length≤65536:=⟨_,zP0 (by omega),hg _ (List.getElem_mem _)⟩
  obtain ⟨g1,g2,g3⟩:=YK0 hx
  have hK:=GT0 hx
  have hW:=GV0 hx
  have hL:=(GU0 hx).2
  have hp1:=SS.one q0 t.2
  have hgp1:=hp1.gnd
  have hp2:=h2.push q0 t.1 htw g
  have hl2:=h2.len
  have hg2:=h2.gnd
  have hgp2:=hp2.gnd
  obtain ⟨ws,w1,w2,w3,w4⟩:=h2.note h3
  have w5:ws.map V.str++[V.str t.2]=(ws++[t.2]).map V.str:=by rw [List.map_append];rfl
  have u1:=w4 [t.2] (by simp;omega)
  have u2:=w4 (ws++[t.2]) (by simp;omega)
  have ug1:=u1.2.gnd
  have ug2:=u2.2.gnd
  have ug3:=Yk0 (ws++[t.2])
  have ug4:GndR [V.str t.2]:=Yk0 [t.2]
  have u1a:stX PP 42 (.osl 1 [V.str t.2]) 0 4 l2 _:=u1.1
  have u2a:=u2.1
  have u1b:IS (i+1) n2 (qY0 4 l2 _ (.osl 1 [V.str t.2])):=u1.2
  have u1g:=u1b.gnd
  have u2b:=u2.2
  have hn0:¬ ((n2:Int)=0):=by omega
  have hnp:0<(n2:Int):=by omega
  simp only [Nat.add_eq,Nat.add_zero,Nat.zero_add,List.length_cons,List.length_nil,List.length_append,g1,g2,g3,w1,w5]
  refine Rn.nX (by omega) ?_
  refine Rn.need hL ?_
  refine Rn.bndO (Gr0 t.1 t.2) (fun b hb=>?_)
  refine Rn.cond (fun hbt=>?_) (fun hbf=>?_)
  ·have hb:=hb hbt
   repeat' (first | (with_reducible assumption) | refine Rn.dec (fun h=>absurd h hb) (fun _=>?_) | refine Rn.dec (fun h=>absurd h hn0) (fun _=>?_) | refine Rn.dec (fun _=>?_) (fun h=>absurd hnp h) | refine Rn.dec (fun _=>?_) (fun _=>?_) | refine Rn.nX (by omega) ?_ | refine Rn.nI (by omega) ?_ | refine Rn.join ?_ (fun _ hj=>?_) | refine Rn.need ?_ ?_ | (with_reducible refine Rn.bndO (IH (i+1) _ _ _ _ ?_ ?_ ?_ ?_ ?_ ?_ ?_) zX0) | refine Rn.cond (fun _=>?_) (fun _=>?_) | (with_reducible exact hp1) | (with_reducible exact hp2) | (with_reducible exact (h2.mono (by omega))) | exact trivial | (with_reducible rfl) | refine And.intro ?_ ?_ | omega | exact List.cons_ne_nil _ _ | exact jk0 (by assumption) | (simp only [List.length_cons,List.length_nil,List.length_append,List.length_map] <;> omega))
  ·repeat' (first | (with_reducible assumption) | refine Rn.dec (fun h=>absurd h hn0) (fun _=>?_) | refine Rn.dec (fun _=>?_) (fun h=>absurd hnp h) | refine Rn.dec (fun _=>?_) (fun _=>?_) | refine Rn.nX (by omega) ?_ | refine Rn.nI (by omega) ?_ | refine Rn.join ?_ (fun _ hj=>?_) | refine Rn.need ?_ ?_ | (with_reducible refine Rn.bndO (IH (i+1) _ _ _ _ ?_ ?_ ?_ ?_ ?_ ?_ ?_) zX0) | refine Rn.cond (fun _=>?_) (fun _=>?_) | (with_reducible exact hp1) | (with_reducible exact hp2) | (with_reducible exact (h2.mono (by omega))) | exact trivial | (with_reducible rfl) | refine And.intro ?_ ?_ | omega | exact List.cons_ne_nil _ _ | exact jk0 (by assumption) | (simp only [List.length_cons,List.length_nil,List.length_append,List.length_map] <;> omega))
theorem QD1 (ts:List (Int×List UInt8)) (hts:ts.length≤65536) (hg:∀ t,t∈ts→t.2≠[]∧t.2.length≤65536):∀ (d:Nat) (i g:Int) (v1 n1:Nat) (l1:List V),0≤i→i≤ts.length→(ts.length:Int)-i≤d→0≤g→g≤65536*i→SS i n1 l1→Ok1 (fun X=>X.Ix (.code (.loop (lpB PP 22 0)) ((base 22 93).on [(0,.osl 2 (ts.map qN0)),(4,.sl 0 v1 0 n1 none),(5,.nils),(6,.int .i64 g),(7,.int .i64 i)]) (hp [strR v1 l1]))) (PI (ts.map qN0)):=by
 intro d
 induction d with
 | zero =>
  intro i g v1 n1 l1  q0 q1 q2 q3 q4 h1
  refine .nrm (R:=fun a=>rIx (base 22 93) a.b1 a.b2 a) (L:=lIx) (N:=nIx) (fun _=>rfl) Zu0 PI.n (Tk.by (.of (fun m=>jB1 (XM m) _ none some (ts.map qN0) g i v1 n1 l1) ?_))
  rw [List.length_map]
  refine Rn.dec (fun h=>absurd h (by omega)) (fun _=>?_)
  (repeat refine Rn.need h1.gnd ?_);exact Rn.ret ⟨⟨_,true,v1,n1,l1,false,0,0,[]⟩,rfl,rfl,(fun _=>h1.mono (by omega)),fun e=>by cases e⟩
 | succ d IH =>
  intro i g v1 n1 l1  q0 q1 q2 q3 q4 h1
  refine .nrm (R:=fun a=>rIx (base 22 93) a.b1 a.b2 a) (L:=lIx) (N:=nIx) (fun _=>rfl) Zu0 PI.n (Tk.by (.of (fun m=>jB1 (XM m) _ none some (ts.map qN0) g i v1 n1 l1) ?_))
  rw [List.length_map]
  refine Rn.dec (fun hi=>?_) (fun _=>?_)
  case refine_2=>(repeat refine Rn.need h1.gnd ?_);exact Rn.ret ⟨⟨_,true,v1,n1,l1,false,0,0,[]⟩,rfl,rfl,(fun _=>h1.mono (by omega)),fun e=>by cases e⟩
  obtain ⟨t,hx,htw⟩:∃ t:Int×List UInt8,(ts.map qN0)[i.toNat]?=some (qN0 t)∧t.2≠[]∧t.2.length≤65536:=⟨_,zP0 (by omega),hg _ (List.getElem_mem _)⟩
  obtain ⟨g1,g2,g3⟩:=YK0 hx
  have hK:=GT0 hx
  have hW:=GV0 hx
  have hL:=(GU0 hx).2
  have hp1:=h1.push t.2
  have hl1:=h1.len
  have hg1:=h1.gnd
  have hgp1:=hp1.gnd
  have hp2:=IS.one q0 t.1 htw g
  have hgp2:=hp2.gnd
  have ug4:GndR [V.str t.2]:=Yk0 [t.2]
  simp only [Nat.add_eq,Nat.add_zero,Nat.zero_add,List.length_cons,List.length_nil,g1,g2,g3]
  refine Rn.nX (by omega) ?_
  refine Rn.need hL ?_
  refine Rn.bndO (Gr0 t.1 t.2) (fun b hb=>?_)
  refine Rn.cond (fun hbt=>?_) (fun hbf=>?_)
  ·have hb:=hb hbt
   repeat' (first | (with_reducible assumption) | refine Rn.dec (fun h=>absurd h hb) (fun _=>?_) | refine Rn.dec (fun _=>?_) (fun _=>?_) | refine Rn.nX (by omega) ?_ | refine Rn.nI (by omega) ?_ | refine Rn.join ?_ (fun _ hj=>?_) | refine Rn.need ?_ ?_ | (with_reducible refine Rn.bndO (IH (i+1) _ _ _ _ ?_ ?_ ?_ ?_ ?_ ?_) zX0) | (with_reducible refine Rn.bndO (QE1 ts hts hg d (i+1) _ _ _ _ _ _ _ ?_ ?_ ?_ ?_ ?_ ?_ ?_ ?_) zX0) | refine Rn.cond (fun _=>?_) (fun _=>?_) | (with_reducible exact hp1) | (with_reducible exact (h1.mono (by omega))) | (with_reducible exact hp2) | exact trivial | (with_reducible rfl) | refine And.intro ?_ ?_ | omega | exact List.cons_ne_nil _ _ | exact jk0 (by assumption) | (simp only [List.length_cons,List.length_nil,List.length_append,List.length_map] <;> omega))
  ·repeat' (first | (with_reducible assumption) | fail | refine Rn.dec (fun _=>?_) (fun _=>?_) | refine Rn.nX (by omega) ?_ | refine Rn.nI (by omega) ?_ | refine Rn.join ?_ (fun _ hj=>?_) | refine Rn.need ?_ ?_ | (with_reducible refine Rn.bndO (IH (i+1) _ _ _ _ ?_ ?_ ?_ ?_ ?_ ?_) zX0) | (with_reducible refine Rn.bndO (QE1 ts hts hg d (i+1) _ _ _ _ _ _ _ ?_ ?_ ?_ ?_ ?_ ?_ ?_ ?_) zX0) | refine Rn.cond (fun _=>?_) (fun _=>?_) | (with_reducible exact hp1) | (with_reducible exact (h1.mono (by omega))) | (with_reducible exact hp2) | exact trivial | (with_reducible rfl) | refine And.intro ?_ ?_ | omega | exact List.cons_ne_nil _ _ | exact jk0 (by assumption) | (simp only [List.length_cons,List.length_nil,List.length_append,List.length_map] <;> omega))
theorem ql2 (ts:List (Int×List UInt8)) (hts:ts.length≤65536) (hg:∀ t,t∈ts→t.2≠[]∧t.2.length≤65536):∀ (d:Nat) (i g:Int) ,0≤i→i≤ts.length→(ts.length:Int)-i≤d→0≤g→g≤65536*i→ Ok1 (fun X=>X.Ix (.code (.loop (lpB PP 22 0)) ((base 22 93).on [(0,.osl 2 (ts.map qN0)),(4,.nils),(5,.nils),(6,.int .i64 g),(7,.int .i64 i)]) Heap.empty)) (PI (ts.map qN0)):=by
 intro d
 induction d with
 | zero =>
  intro i g  q0 q1 q2 q3 q4
  refine .nrm (R:=fun a=>rIx (base 22 93) a.b1 a.b2 a) (L:=lIx) (N:=nIx) (fun _=>rfl) Zu0 PI.n (Tk.by (.of (fun m=>jz1 (XM m) _ none some (ts.map qN0) g i) ?_))
  rw [List.length_map]
  refine Rn.dec (fun h=>absurd h (by omega)) (fun _=>?_)
  exact Rn.ret ⟨⟨_,false,0,0,[],false,0,0,[]⟩,rfl,rfl,(fun e=>by cases e),fun e=>by cases e⟩
 | succ d IH =>
  intro i g  q0 q1 q2 q3 q4
  refine .nrm (R:=fun a=>rIx (base 22 93) a.b1 a.b2 a) (L:=lIx) (N:=nIx) (fun _=>rfl) Zu0 PI.n (Tk.by (.of (fun m=>jz1 (XM m) _ none some (ts.map qN0) g i) ?_))
  rw [List.length_map]
  refine Rn.dec (fun hi=>?_) (fun _=>?_)
  case refine_2=>exact Rn.ret ⟨⟨_,false,0,0,[],false,0,0,[]⟩,rfl,rfl,(fun e=>by cases e),fun e=>by cases e⟩
  obtain ⟨t,hx,htw⟩:∃ t:Int×List UInt8,(ts.map qN0)[i.toNat]?=some (qN0 t)∧t.2≠[]∧t.2.length≤65536:=⟨_,zP0 (by omega),hg _ (List.getElem_mem _)⟩
  obtain ⟨g1,g2,g3⟩:=YK0 hx
  have hK:=GT0 hx
  have hW:=GV0 hx
  have hL:=(GU0 hx).2
  have hp1:=SS.one q0 t.2
  have hgp1:=hp1.gnd
  have hp2:=IS.one q0 t.1 htw g
  have hgp2:=hp2.gnd
  have ug4:GndR [V.str t.2]:=Yk0 [t.2]
  simp only [Nat.add_eq,Nat.add_zero,Nat.zero_add,List.length_cons,List.length_nil,g1,g2,g3]
  refine Rn.nX (by omega) ?_
  refine Rn.need hL ?_
  refine Rn.bndO (Gr0 t.1 t.2) (fun b hb=>?_)
  refine Rn.cond (fun hbt=>?_) (fun hbf=>?_)
  ·have hb:=hb hbt
   repeat' (first | (with_reducible assumption) | refine Rn.dec (fun h=>absurd h hb) (fun _=>?_) | refine Rn.dec (fun _=>?_) (fun _=>?_) | refine Rn.nX (by omega) ?_ | refine Rn.nI (by omega) ?_ | refine Rn.join ?_ (fun _ hj=>?_) | refine Rn.need ?_ ?_ | (with_reducible refine Rn.bndO (IH (i+1) _  ?_ ?_ ?_ ?_ ?_ ) zX0) | (with_reducible refine Rn.bndO (QD1 ts hts hg d (i+1) _ _ _ _ ?_ ?_ ?_ ?_ ?_ ?_) zX0) | (with_reducible refine Rn.bndO (QC1 ts hts hg d (i+1) _ _ _ _ ?_ ?_ ?_ ?_ ?_ ?_ ?_) zX0) | refine Rn.cond (fun _=>?_) (fun _=>?_) | (with_reducible exact hp1) | (with_reducible exact hp2) | exact trivial | (with_reducible rfl) | refine And.intro ?_ ?_ | omega | exact List.cons_ne_nil _ _ | exact jk0 (by assumption) | (simp only [List.length_cons,List.length_nil,List.length_append,List.length_map] <;> omega))
  ·repeat' (first | (with_reducible assumption) | fail | refine Rn.dec (fun _=>?_) (fun _=>?_) | refine Rn.nX (by omega) ?_ | refine Rn.nI (by omega) ?_ | refine Rn.join ?_ (fun _ hj=>?_) | refine Rn.need ?_ ?_ | (with_reducible refine Rn.bndO (IH (i+1) _  ?_ ?_ ?_ ?_ ?_ ) zX0) | (with_reducible refine Rn.bndO (QD1 ts hts hg d (i+1) _ _ _ _ ?_ ?_ ?_ ?_ ?_ ?_) zX0) | (with_reducible refine Rn.bndO (QC1 ts hts hg d (i+1) _ _ _ _ ?_ ?_ ?_ ?_ ?_ ?_ ?_) zX0) | refine Rn.cond (fun _=>?_) (fun _=>?_) | (with_reducible exact hp1) | (with_reducible exact hp2) | exact trivial | (with_reducible rfl) | refine And.intro ?_ ?_ | omega | exact List.cons_ne_nil _ _ | exact jk0 (by assumption) | (simp only [List.length_cons,List.length_nil,List.length_append,List.length_map] <;> omega))
noncomputable def lIT:Res→List V×List V
 | .ret v _=>(match v with
  | .tup [a,b]=>(zW0 a,zW0 b)
  | _=>([],[]))
 | _=>([],[])
theorem QF1 (es:List V) (h:Tks es):Ok1 (fun X=>X.IT (.call 22 [.osl 2 es] Heap.empty)) fun a=>∃ n,IS 65536 n a.2:=by
 obtain ⟨ts,rfl,h1,h2⟩:=h
 refine .tk (R:=rIT) (L:=lIT) (fun _=>rfl) (fun _=>rfl) (Tk.by (.of (fun m=>Ky1 (XM m) _ none some (ts.map qN0)) ?_))
 refine Rn.bndO (ql2 ts h1 h2 ts.length 0 0 (by omega) (by omega) (by omega) (by omega) (by omega)) (fun ⟨e,b1,v1,n1,l1,b2,v2,n2,l2⟩ ⟨_,p1,p2⟩=>?_)
 refine Rn.cond (fun hb1=>?_) (fun hb1=>?_)
 ·have g1:=p1 hb1
  refine Rn.cond (fun hb2=>?_) (fun hb2=>?_)
  ·have g2:=p2 hb2
   exact Rn.nG g1.len.1 g1.gnd (Rn.nG g2.len.1 g2.gnd (Rn.ret ⟨(_,_),rfl,_,g2⟩))
  ·exact Rn.nG g1.len.1 g1.gnd (Rn.ret ⟨(_,_),rfl,_,IS.nil (by omega)⟩)
 ·refine Rn.cond (fun hb2=>?_) (fun hb2=>?_)
  ·have g2:=p2 hb2
   exact Rn.nG g2.len.1 g2.gnd (Rn.ret ⟨(_,_),rfl,_,g2⟩)
  ·exact Rn.ret ⟨(_,_),rfl,_,IS.nil (by omega)⟩
def MS (b:Int) (n:Nat) (l:List V):Prop:=∃ its:List It,l=its.map itV∧n=its.length∧(its.length:Int)≤b∧∀ x,x∈its→x.w≠[]∧x.w.length≤65536
theorem MS.gnd {b:Int} {n:Nat} {l:List V} (h:MS b n l):GndR l:=by obtain ⟨ts,rfl,_⟩:=h;exact KK0 ts
theorem MS.len {b:Int} {n:Nat} {l:List V} (h:MS b n l):n=l.length∧(n:Int)≤b:=by obtain ⟨ts,rfl,rfl,h,_⟩:=h;exact ⟨by rw [List.length_map],h⟩
theorem MS.mono {a b:Int} {n:Nat} {l:List V} (h:MS a n l) (hab:a≤b):MS b n l:=by obtain ⟨ts,h1,h2,h3,h4⟩:=h;exact ⟨ts,h1,h2,by omega,h4⟩
theorem MS.nil {b:Int} (hb:0≤b):MS b 0 []:=⟨[],rfl,rfl,hb,fun x hx=>by cases hx⟩
theorem MS.push {b:Int} {n:Nat} {l:List V} (h:MS b n l) {x:It} (hx:x.w≠[]∧x.w.length≤65536):MS (b+1) (n+1) (l++[V.agg [V.int IntKind.i64 x.k,V.str x.w,V.int IntKind.i64 x.a,V.osl 1 x.ns]]):=by
 obtain ⟨ts,rfl,rfl,h3,h4⟩:=h
 refine ⟨ts++[x],by rw [List.map_append];rfl,by simp,by simp;omega,fun y hy=>?_⟩
 rcases List.mem_append.1 hy with h | h
 ·exact h4 y h
 ·rw [List.mem_singleton] at h;rw [h];exact hx
theorem IS.ms {b:Int} {n:Nat} {l:List V} (h:IS b n l):MS b n l:=by
 obtain ⟨ts,h1,h2,h3,h4⟩:=h
 exact ⟨ts,h1,h2,h3,fun x hx=>⟨(h4 x hx).1,(h4 x hx).2.1⟩⟩
theorem MS.get {b:Int} {n:Nat} {l:List V} (h:MS b n l) {i:Nat} (hi:i<l.length):∃ x:It,l[i]?=some (itV x)∧x.w≠[]∧x.w.length≤65536:=by
 obtain ⟨ts,rfl,h2,h3,h4⟩:=h
 rw [List.length_map] at hi
 exact ⟨_,zP0 hi,h4 _ (List.getElem_mem hi)⟩
noncomputable def lMx:Res→Bool×Nat×Nat×List V×List V
 | .code _ fr h=>(match fr.tm.get undef 15 with
  | .sl _ v _ n _=>(true,v,n,zA0 (h.get 0),zW0 (fr.tm.get undef 1))
  | _=>(false,0,0,[],zW0 (fr.tm.get undef 1)))
 | _=>(false,0,0,[],[])
def nMx (a:Bool×Nat×Nat×List V×List V):Bool×Nat×Nat×List V×List V:=bif a.1 then (true,a.2.1,a.2.2.1,a.2.2.2.1,a.2.2.2.2) else (false,0,0,[],a.2.2.2.2)
theorem KZ0 (a:Bool×Nat×Nat×List V×List V):lMx (rMx (base 13 98) a.1 a)=nMx a:=by
 obtain ⟨b,v,n,l,ds⟩:=a
 cases b <;> kernel_rfl
def PM (a:Bool×Nat×Nat×List V×List V):Prop:=a.1=true→MS 200000 a.2.2.1 a.2.2.2.1
theorem PM.n:∀ a,PM (nMx a)→PM a:=fun ⟨b,v,n,l,ds⟩ h=>by
 cases b with
 | true=>exact h
 | false=>exact fun e=>by cases e
abbrev PMr (r:Res):Prop:=∃ a,r=rMx (base 13 98) a.1 a∧PM (nMx a)
theorem zw0 (a:Bool×Nat×Nat×List V×List V) (ha:PM a):Rn (fun _=>bif a.1 then (need none (GndR a.2.2.2.1) (some (.code (.exit 0) ((base 13 98).on [(1,.osl 1 a.2.2.2.2),(15,.sl 0 a.2.1 0 a.2.2.1 none)]) (hp [.row a.2.1 59 4 0 none a.2.2.2.1])))) else (some (.code (.exit 0) ((base 13 98).on [(1,.osl 1 a.2.2.2.2),(15,.nils)]) Heap.empty))) PMr:=by
 obtain ⟨b,v,n,l,ds⟩:=a
 refine Rn.cond (fun hb=>?_) (fun hb=>?_)
 ·have g:=ha hb
  exact Rn.need g.gnd (Rn.ret ⟨(true,v,n,l,ds),rfl,fun _=>g⟩)
 ·exact Rn.ret ⟨(false,0,0,[],ds),rfl,fun e=>by cases e⟩
theorem Jz0 (d:List UInt8) (hd:(d.length:Int)≤9223372036854775807) (xs ys:List V) (nx ny:Nat) (hx:MS 65536 nx xs) (hy:MS 65536 ny ys):∀ (k:Nat) (i:Int) (v n:Nat) (l:List V),0≤i→i≤xs.length→(xs.length:Int)-i≤k→MS (3*i) n l→ Ok1 (fun X=>X.Mx (.code (.loop (lpB PP 13 0)) ((base 13 98).on [(1,.osl 1 (d.map bV)),(9,.osl 4 xs),(14,.osl 4 ys),(15,.sl 0 v 0 n none),(16,.int .i64 i)]) (hp [QO0 v l]))) PM:=by
 have hxl:=hx.len
 have hyl:=hy.len
 intro k
 induction k with
 | zero =>
  intro i v n l q0 q1 q2 h1
  refine .nrm (R:=fun a=>rMx (base 13 98) a.1 a) (L:=lMx) (N:=nMx) (fun _=>rfl) KZ0 PM.n (Tk.by (.of (fun m=>jE1 (XM m) _ none some (d.map bV) xs ys i v n l) ?_))
  refine Rn.dec (fun h=>absurd h (by omega)) (fun _=>?_)
  (repeat refine Rn.need h1.gnd ?_);exact Rn.ret ⟨(true,v,n,l,_),rfl,fun _=>h1.mono (by omega)⟩
 | succ k IH =>
  intro i v n l q0 q1 q2 h1
  refine .nrm (R:=fun a=>rMx (base 13 98) a.1 a) (L:=lMx) (N:=nMx) (fun _=>rfl) KZ0 PM.n (Tk.by (.of (fun m=>jE1 (XM m) _ none some (d.map bV) xs ys i v n l) ?_))
  refine Rn.dec (fun hi=>?_) (fun _=>?_)
  case refine_2=>(repeat refine Rn.need h1.gnd ?_);exact Rn.ret ⟨(true,v,n,l,_),rfl,fun _=>h1.mono (by omega)⟩
  obtain ⟨x,hxg,hxw⟩:=hx.get (i:=i.toNat) (by omega)
  obtain ⟨g1,g2,g3,g4,_⟩:=QM0 hxg
  have hL:=(QN0 hxg).2.1
  have hl:=h1.len
  have hg:=h1.gnd
  have m1:=h1.push hxw
  have m2:=m1.push hxw
  have mg1:=m1.gnd
  have mg2:=m2.gnd
  simp only [Nat.zero_add,Nat.succ_eq_add_one,List.length_cons,List.length_nil,List.length_append,List.length_map,g1,g2,g3,g4]
  refine Rn.join ?_ (fun j1 hj1=>?_)
  ·repeat' (first | (with_reducible assumption) | refine Rn.nX (by omega) ?_ | refine Rn.nI (by omega) ?_ | refine Rn.need ?_ ?_ | (with_reducible refine Rn.bndO (IH (i+1) _ _ _ ?_ ?_ ?_ ?_) zw0) | (with_reducible exact m1.mono (by omega)) | (with_reducible exact m2.mono (by omega)) | (with_reducible exact h1.mono (by omega)) | exact trivial | (with_reducible rfl) | refine And.intro ?_ ?_ | omega | exact List.cons_ne_nil _ _ | (simp only [List.length_cons,List.length_nil,List.length_append] <;> omega))
  refine Rn.dec (fun hid=>?_) (fun _=>?_)
  case refine_2=>repeat' (first | (with_reducible assumption) | refine Rn.nX (by omega) ?_ | refine Rn.nI (by omega) ?_ | refine Rn.need ?_ ?_ | (with_reducible refine Rn.bndO (IH (i+1) _ _ _ ?_ ?_ ?_ ?_) zw0) | (with_reducible exact m1.mono (by omega)) | (with_reducible exact m2.mono (by omega)) | (with_reducible exact h1.mono (by omega)) | exact trivial | (with_reducible rfl) | refine And.intro ?_ ?_ | omega | exact List.cons_ne_nil _ _ | (simp only [List.length_cons,List.length_nil,List.length_append] <;> omega))
  obtain ⟨z,hz⟩:∃ b:UInt8,(d.map bV)[i.toNat]?=some (bV b):=⟨_,zP0 (by omega)⟩
  obtain ⟨b1,b2,b3⟩:=Ga0 hz
  have hb:=z.toNat_lt
  have hyy:0<(ys.length:Int)→∃ y:It,ys[((z.toNat:Int)%(ys.length:Int)).toNat]?=some (itV y)∧y.w≠[]∧y.w.length≤65536:=fun h=>by
   have m0:=Int.emod_nonneg (z.toNat:Int) (show (ys.length:Int)≠0 by omega)
   have m1:=Int.emod_lt_of_pos (z.toNat:Int) h
   exact hy.get (by omega)
  simp only [b3]
  refine Rn.nX (by omega) ?_
  refine Rn.need b2 ?_
  refine Rn.nI (by omega) ?_
  refine Rn.dec (fun _=>?_) (fun _=>?_)
  ·repeat' (first | (with_reducible assumption) | refine Rn.nX (by omega) ?_ | refine Rn.nI (by omega) ?_ | refine Rn.need ?_ ?_ | (with_reducible refine Rn.bndO (IH (i+1) _ _ _ ?_ ?_ ?_ ?_) zw0) | (with_reducible exact m1.mono (by omega)) | (with_reducible exact m2.mono (by omega)) | (with_reducible exact h1.mono (by omega)) | exact trivial | (with_reducible rfl) | refine And.intro ?_ ?_ | omega | exact List.cons_ne_nil _ _ | (simp only [List.length_cons,List.length_nil,List.length_append] <;> omega))
  refine Rn.nX (by omega) ?_
  refine Rn.need hL ?_
  refine Rn.need (by repeat' (first | (with_reducible assumption) | exact trivial | (with_reducible rfl) | refine And.intro ?_ ?_ | omega | exact List.cons_ne_nil _ _ | (simp only [List.length_cons,List.length_nil,List.length_append] <;> omega))) ?_
  refine Rn.dec (fun _=>?_) (fun _=>?_)
  ·refine Rn.nX (by omega) ?_
   refine Rn.need hL ?_
   refine Rn.need (by repeat' (first | (with_reducible assumption) | exact trivial | (with_reducible rfl) | refine And.intro ?_ ?_ | omega | exact List.cons_ne_nil _ _ | (simp only [List.length_cons,List.length_nil,List.length_append] <;> omega))) ?_
   refine Rn.join ?_ (fun j2 hj2=>?_)
   ·repeat' (first | (with_reducible assumption) | refine Rn.nX (by omega) ?_ | refine Rn.nI (by omega) ?_ | refine Rn.need ?_ ?_ | (with_reducible refine Rn.bndO (IH (i+1) _ _ _ ?_ ?_ ?_ ?_) zw0) | (with_reducible exact m1.mono (by omega)) | (with_reducible exact m2.mono (by omega)) | (with_reducible exact h1.mono (by omega)) | exact trivial | (with_reducible rfl) | refine And.intro ?_ ?_ | omega | exact List.cons_ne_nil _ _ | (simp only [List.length_cons,List.length_nil,List.length_append] <;> omega))
   refine Rn.dec (fun _=>?_) (fun _=>hj2)
   refine Rn.dec (fun _=>?_) (fun _=>hj2)
   refine Rn.dec (fun _=>?_) (fun _=>hj2)
   obtain ⟨y,hyg,hyw⟩:=hyy (by assumption)
   have y0:=Int.emod_nonneg (z.toNat:Int) (show (ys.length:Int)≠0 by omega)
   have y1:=Int.emod_lt_of_pos (z.toNat:Int) (show 0<(ys.length:Int) by omega)
   obtain ⟨k1,k2,k3,k4,_⟩:=QM0 hyg
   have kL:=(QN0 hyg).2.1
   have m3:=m1.push hyw
   have m4:=m2.push hyw
   have mg3:=m3.gnd
   have mg4:=m4.gnd
   simp only [k1,k2,k3,k4]
   repeat' (first | (with_reducible assumption) | refine Rn.nX (by omega) ?_ | refine Rn.nX ⟨y0,y1⟩ ?_ | refine Rn.nI (by omega) ?_ | refine Rn.need ?_ ?_ | (with_reducible refine Rn.bndO (IH (i+1) _ _ _ ?_ ?_ ?_ ?_) zw0) | (with_reducible exact m1.mono (by omega)) | (with_reducible exact m2.mono (by omega)) | (with_reducible exact h1.mono (by omega)) | (with_reducible exact m3.mono (by omega)) | (with_reducible exact m4.mono (by omega)) | exact trivial | (with_reducible rfl) | refine And.intro ?_ ?_ | omega | exact List.cons_ne_nil _ _ | (simp only [List.length_cons,List.length_nil,List.length_append] <;> omega))
  refine Rn.dec (fun _=>?_) (fun _=>hj1)
  refine Rn.dec (fun _=>?_) (fun _=>hj1)
  refine Rn.dec (fun _=>?_) (fun _=>hj1)
  obtain ⟨y,hyg,hyw⟩:=hyy (by assumption)
  have y0:=Int.emod_nonneg (z.toNat:Int) (show (ys.length:Int)≠0 by omega)
  have y1:=Int.emod_lt_of_pos (z.toNat:Int) (show 0<(ys.length:Int) by omega)
  obtain ⟨k1,k2,k3,k4,_⟩:=QM0 hyg
  have kL:=(QN0 hyg).2.1
  have m3:=m1.push hyw
  have m4:=m2.push hyw
  have mg3:=m3.gnd
  have mg4:=m4.gnd
  simp only [k1,k2,k3,k4]
  repeat' (first | (with_reducible assumption) | refine Rn.nX (by omega) ?_ | refine Rn.nX ⟨y0,y1⟩ ?_ | refine Rn.nI (by omega) ?_ | refine Rn.need ?_ ?_ | (with_reducible refine Rn.bndO (IH (i+1) _ _ _ ?_ ?_ ?_ ?_) zw0) | (with_reducible exact m1.mono (by omega)) | (with_reducible exact m2.mono (by omega)) | (with_reducible exact h1.mono (by omega)) | (with_reducible exact m3.mono (by omega)) | (with_reducible exact m4.mono (by omega)) | exact trivial | (with_reducible rfl) | refine And.intro ?_ ?_ | omega | exact List.cons_ne_nil _ _ | (simp only [List.length_cons,List.length_nil,List.length_append] <;> omega))
theorem zl2 (d:List UInt8) (hd:(d.length:Int)≤9223372036854775807) (xs ys:List V) (nx ny:Nat) (hx:MS 65536 nx xs) (hy:MS 65536 ny ys):∀ (k:Nat) (i:Int) ,0≤i→i≤xs.length→(xs.length:Int)-i≤k→ Ok1 (fun X=>X.Mx (.code (.loop (lpB PP 13 0)) ((base 13 98).on [(1,.osl 1 (d.map bV)),(9,.osl 4 xs),(14,.osl 4 ys),(15,.nils),(16,.int .i64 i)]) Heap.empty)) PM:=by
 have hxl:=hx.len
 have hyl:=hy.len
 intro k
 induction k with
 | zero =>
  intro i q0 q1 q2
  refine .nrm (R:=fun a=>rMx (base 13 98) a.1 a) (L:=lMx) (N:=nMx) (fun _=>rfl) KZ0 PM.n (Tk.by (.of (fun m=>jD1 (XM m) _ none some (d.map bV) xs ys i) ?_))
  refine Rn.dec (fun h=>absurd h (by omega)) (fun _=>?_)
  exact Rn.ret ⟨(false,0,0,[],_),rfl,fun e=>by cases e⟩
 | succ k IH =>
  intro i q0 q1 q2
  refine .nrm (R:=fun a=>rMx (base 13 98) a.1 a) (L:=lMx) (N:=nMx) (fun _=>rfl) KZ0 PM.n (Tk.by (.of (fun m=>jD1 (XM m) _ none some (d.map bV) xs ys i) ?_))
  refine Rn.dec (fun hi=>?_) (fun _=>?_)
  case refine_2=>exact Rn.ret ⟨(false,0,0,[],_),rfl,fun e=>by cases e⟩
  obtain ⟨x,hxg,hxw⟩:=hx.get (i:=i.toNat) (by omega)
  obtain ⟨g1,g2,g3,g4,_⟩:=QM0 hxg
  have hL:=(QN0 hxg).2.1
  have m1:MS (3*i+1) 1 [V.agg [V.int IntKind.i64 x.k,V.str x.w,V.int IntKind.i64 x.a,V.osl 1 x.ns]]:=(MS.nil (by omega)).push hxw
  have m2:MS (3*i+1+1) 2 [V.agg [V.int IntKind.i64 x.k,V.str x.w,V.int IntKind.i64 x.a,V.osl 1 x.ns],V.agg [V.int IntKind.i64 x.k,V.str x.w,V.int IntKind.i64 x.a,V.osl 1 x.ns]]:=m1.push hxw
  have mg1:=m1.gnd
  have mg2:=m2.gnd
  simp only [List.length_map,g1,g2,g3,g4]
  refine Rn.join ?_ (fun j1 hj1=>?_)
  ·repeat' (first | (with_reducible assumption) | refine Rn.nX (by omega) ?_ | refine Rn.nI (by omega) ?_ | refine Rn.need ?_ ?_ | (with_reducible refine Rn.bndO (IH (i+1) ?_ ?_ ?_ ) zw0) | (with_reducible refine Rn.bndO (Jz0 d hd xs ys nx ny hx hy k (i+1) _ _ _ ?_ ?_ ?_ ?_) zw0) | (with_reducible exact m1.mono (by omega)) | (with_reducible exact m2.mono (by omega)) | exact trivial | (with_reducible rfl) | refine And.intro ?_ ?_ | omega | exact List.cons_ne_nil _ _ | (simp only [List.length_cons,List.length_nil,List.length_append] <;> omega))
  refine Rn.dec (fun hid=>?_) (fun _=>?_)
  case refine_2=>repeat' (first | (with_reducible assumption) | refine Rn.nX (by omega) ?_ | refine Rn.nI (by omega) ?_ | refine Rn.need ?_ ?_ | (with_reducible refine Rn.bndO (IH (i+1) ?_ ?_ ?_ ) zw0) | (with_reducible refine Rn.bndO (Jz0 d hd xs ys nx ny hx hy k (i+1) _ _ _ ?_ ?_ ?_ ?_) zw0) | (with_reducible exact m1.mono (by omega)) | (with_reducible exact m2.mono (by omega)) | exact trivial | (with_reducible rfl) | refine And.intro ?_ ?_ | omega | exact List.cons_ne_nil _ _ | (simp only [List.length_cons,List.length_nil,List.length_append] <;> omega))
  obtain ⟨z,hz⟩:∃ b:UInt8,(d.map bV)[i.toNat]?=some (bV b):=⟨_,zP0 (by omega)⟩
  obtain ⟨b1,b2,b3⟩:=Ga0 hz
  have hb:=z.toNat_lt
  have hyy:0<(ys.length:Int)→∃ y:It,ys[((z.toNat:Int)%(ys.length:Int)).toNat]?=some (itV y)∧y.w≠[]∧y.w.length≤65536:=fun h=>by
   have m0:=Int.emod_nonneg (z.toNat:Int) (show (ys.length:Int)≠0 by omega)
   have m1:=Int.emod_lt_of_pos (z.toNat:Int) h
   exact hy.get (by omega)
  simp only [b3]
  refine Rn.nX (by omega) ?_
  refine Rn.need b2 ?_
  refine Rn.nI (by omega) ?_
  refine Rn.dec (fun _=>?_) (fun _=>?_)
  ·repeat' (first | (with_reducible assumption) | refine Rn.nX (by omega) ?_ | refine Rn.nI (by omega) ?_ | refine Rn.need ?_ ?_ | (with_reducible refine Rn.bndO (IH (i+1) ?_ ?_ ?_ ) zw0) | (with_reducible refine Rn.bndO (Jz0 d hd xs ys nx ny hx hy k (i+1) _ _ _ ?_ ?_ ?_ ?_) zw0) | (with_reducible exact m1.mono (by omega)) | (with_reducible exact m2.mono (by omega)) | exact trivial | (with_reducible rfl) | refine And.intro ?_ ?_ | omega | exact List.cons_ne_nil _ _ | (simp only [List.length_cons,List.length_nil,List.length_append] <;> omega))
  refine Rn.nX (by omega) ?_
  refine Rn.need hL ?_
  refine Rn.need (by repeat' (first | (with_reducible assumption) | exact trivial | (with_reducible rfl) | refine And.intro ?_ ?_ | omega | exact List.cons_ne_nil _ _ | (simp only [List.length_cons,List.length_nil,List.length_append] <;> omega))) ?_
  refine Rn.dec (fun _=>?_) (fun _=>?_)
  ·refine Rn.nX (by omega) ?_
   refine Rn.need hL ?_
   refine Rn.need (by repeat' (first | (with_reducible assumption) | exact trivial | (with_reducible rfl) | refine And.intro ?_ ?_ | omega | exact List.cons_ne_nil _ _ | (simp only [List.length_cons,List.length_nil,List.length_append] <;> omega))) ?_
   refine Rn.join ?_ (fun j2 hj2=>?_)
   ·repeat' (first | (with_reducible assumption) | refine Rn.nX (by omega) ?_ | refine Rn.nI (by omega) ?_ | refine Rn.need ?_ ?_ | (with_reducible refine Rn.bndO (IH (i+1) ?_ ?_ ?_ ) zw0) | (with_reducible refine Rn.bndO (Jz0 d hd xs ys nx ny hx hy k (i+1) _ _ _ ?_ ?_ ?_ ?_) zw0) | (with_reducible exact m1.mono (by omega)) | (with_reducible exact m2.mono (by omega)) | exact trivial | (with_reducible rfl) | refine And.intro ?_ ?_ | omega | exact List.cons_ne_nil _ _ | (simp only [List.length_cons,List.length_nil,List.length_append] <;> omega))
   refine Rn.dec (fun _=>?_) (fun _=>hj2)
   refine Rn.dec (fun _=>?_) (fun _=>hj2)
   refine Rn.dec (fun _=>?_) (fun _=>hj2)
   obtain ⟨y,hyg,hyw⟩:=hyy (by assumption)
   have y0:=Int.emod_nonneg (z.toNat:Int) (show (ys.length:Int)≠0 by omega)
   have y1:=Int.emod_lt_of_pos (z.toNat:Int) (show 0<(ys.length:Int) by omega)
   obtain ⟨k1,k2,k3,k4,_⟩:=QM0 hyg
   have kL:=(QN0 hyg).2.1
   have m3:MS (3*i+1+1) 2 [V.agg [V.int IntKind.i64 x.k,V.str x.w,V.int IntKind.i64 x.a,V.osl 1 x.ns],V.agg [V.int IntKind.i64 y.k,V.str y.w,V.int IntKind.i64 y.a,V.osl 1 y.ns]]:=m1.push hyw
   have m4:MS (3*i+1+1+1) 3 [V.agg [V.int IntKind.i64 x.k,V.str x.w,V.int IntKind.i64 x.a,V.osl 1 x.ns],V.agg [V.int IntKind.i64 x.k,V.str x.w,V.int IntKind.i64 x.a,V.osl 1 x.ns],V.agg [V.int IntKind.i64 y.k,V.str y.w,V.int IntKind.i64 y.a,V.osl 1 y.ns]]:=m2.push hyw
   have mg3:=m3.gnd
   have mg4:=m4.gnd
   simp only [k1,k2,k3,k4]
   repeat' (first | (with_reducible assumption) | refine Rn.nX (by omega) ?_ | refine Rn.nX ⟨y0,y1⟩ ?_ | refine Rn.nI (by omega) ?_ | refine Rn.need ?_ ?_ | (with_reducible refine Rn.bndO (IH (i+1) ?_ ?_ ?_ ) zw0) | (with_reducible refine Rn.bndO (Jz0 d hd xs ys nx ny hx hy k (i+1) _ _ _ ?_ ?_ ?_ ?_) zw0) | (with_reducible exact m1.mono (by omega)) | (with_reducible exact m2.mono (by omega)) | (with_reducible exact m3.mono (by omega)) | (with_reducible exact m4.mono (by omega)) | exact trivial | (with_reducible rfl) | refine And.intro ?_ ?_ | omega | exact List.cons_ne_nil _ _ | (simp only [List.length_cons,List.length_nil,List.length_append] <;> omega))
  refine Rn.dec (fun _=>?_) (fun _=>hj1)
  refine Rn.dec (fun _=>?_) (fun _=>hj1)
  refine Rn.dec (fun _=>?_) (fun _=>hj1)
  obtain ⟨y,hyg,hyw⟩:=hyy (by assumption)
  have y0:=Int.emod_nonneg (z.toNat:Int) (show (ys.length:Int)≠0 by omega)
  have y1:=Int.emod_lt_of_pos (z.toNat:Int) (show 0<(ys.length:Int) by omega)
  obtain ⟨k1,k2,k3,k4,_⟩:=QM0 hyg
  have kL:=(QN0 hyg).2.1
  have m3:MS (3*i+1+1) 2 [V.agg [V.int IntKind.i64 x.k,V.str x.w,V.int IntKind.i64 x.a,V.osl 1 x.ns],V.agg [V.int IntKind.i64 y.k,V.str y.w,V.int IntKind.i64 y.a,V.osl 1 y.ns]]:=m1.push hyw
  have m4:MS (3*i+1+1+1) 3 [V.agg [V.int IntKind.i64 x.k,V.str x.w,V.int IntKind.i64 x.a,V.osl 1 x.ns],V.agg [V.int IntKind.i64 x.k,V.str x.w,V.int IntKind.i64 x.a,V.osl 1 x.ns],V.agg [V.int IntKind.i64 y.k,V.str y.w,V.int IntKind.i64 y.a,V.osl 1 y.ns]]:=m2.push hyw
  have mg3:=m3.gnd
  have mg4:=m4.gnd
  simp only [k1,k2,k3,k4]
  repeat' (first | (with_reducible assumption) | refine Rn.nX (by omega) ?_ | refine Rn.nX ⟨y0,y1⟩ ?_ | refine Rn.nI (by omega) ?_ | refine Rn.need ?_ ?_ | (with_reducible refine Rn.bndO (IH (i+1) ?_ ?_ ?_ ) zw0) | (with_reducible refine Rn.bndO (Jz0 d hd xs ys nx ny hx hy k (i+1) _ _ _ ?_ ?_ ?_ ?_) zw0) | (with_reducible exact m1.mono (by omega)) | (with_reducible exact m2.mono (by omega)) | (with_reducible exact m3.mono (by omega)) | (with_reducible exact m4.mono (by omega)) | exact trivial | (with_reducible rfl) | refine And.intro ?_ ?_ | omega | exact List.cons_ne_nil _ _ | (simp only [List.length_cons,List.length_nil,List.length_append] <;> omega))
theorem Zf1 (c d:List UInt8) (hc:(c.length:Int)≤9223372036854775807) (hd:(d.length:Int)≤9223372036854775807):Ok1 (fun X=>X.E4 (.call 13 [.osl 1 (c.map bV),.osl 1 (d.map bV)] Heap.empty)) fun a=>∃ n,MS 200000 n a:=by
 refine .tk (R:=rE4) (L:=lE 4) (fun _=>rfl) (fun _=>rfl) (Tk.by (.of (fun m=>KA1 (XM m) _ none some (c.map bV) (d.map bV)) ?_))
 refine Rn.bndO (Qs2 c hc) (fun a ⟨c',ha,hc'⟩=>?_)
 subst ha
 refine Rn.bndO (QH2 c' (by omega)) (fun s hs=>?_)
 refine Rn.bndO (Yy1 s (by omega)) (fun ⟨t1,t2,t3⟩ ht=>?_)
 refine Rn.bndO (QF1 t1 ht) (fun ⟨u1,xs⟩ ⟨nx,hx⟩=>?_)
 refine Rn.bndO (QG2 d hd) (fun s4 hs4=>?_)
 refine Rn.bndO (Yy1 s4 (by omega)) (fun ⟨t1,t2,t3⟩ ht=>?_)
 refine Rn.bndO (QF1 t1 ht) (fun ⟨u1,ys⟩ ⟨ny,hy⟩=>?_)
 refine Rn.bndO (zl2 d hd xs ys nx ny hx.ms hy.ms xs.length 0 (by omega) (by omega) (by omega)) (fun ⟨b,v,n,l,ds⟩ hm=>?_)
 refine Rn.cond (fun hb=>?_) (fun _=>?_)
 ·have g:=hm hb
  exact Rn.nG g.len.1 g.gnd (Rn.ret ⟨_,rfl,_,g⟩)
 ·exact Rn.ret ⟨_,rfl,_,MS.nil (by omega)⟩
/-- ParseFirst: the law, over what it calls. -/
def zv0 (its:List It):List (Int×List UInt8):=its.map fun x=>(x.k,x.w)
def YN0 (its:List It):Prop:=its.length≤1000000∧∀ x,x∈its→x.w≠[]∧x.w.length≤65536
theorem Yz1 {b:Nat}:∀ (l:List (Int×List UInt8)),(∀ t,t∈l→t.2.length≤b)→wid l≤b
 | [],_=>Nat.zero_le _
 | t::l,h=>Nat.max_le.2 ⟨h t (List.mem_cons_self ..),Yz1 l fun t ht=>h t (List.mem_cons_of_mem _ ht)⟩
theorem qm2 (its:List It) (h:YN0 its):Items (its.map itV) (zv0 its):=by
 have hl:(zv0 its).length=its.length:=List.length_map ..
 have hat:∀ i (hi:i<(zv0 its).length),(its.map itV)[i]?=some (itV (its[i]'(by omega))):=fun i hi=>zP0 (by omega)
 refine ⟨by rw [List.length_map,hl],by have:=h.1;omega,Nat.le_trans (Yz1 (b:=65536) _ fun t ht=>?_) (by decide),fun i hi=>(QN0 (hat i hi)).1,fun i hi=>(QN0 (hat i hi)).2.1,fun i hi=>(QN0 (hat i hi)).2.2,fun i hi=>?_,fun i hi=>?_⟩
 ·obtain ⟨x,hx,rfl⟩:=List.mem_map.1 ht
  exact (h.2 x hx).2
 ·rw [(QM0 (hat i hi)).1];simp [zv0]
 ·rw [(QM0 (hat i hi)).2.1];simp [zv0]
theorem ZE2 (its:List It) (h:YN0 its):JT0 (zv0 its):=fun p w hp=>by
 have:∃ k,(k,w)∈zv0 its:=by
  rcases hp with hp | hp
  ·exact ⟨_,List.mem_of_getElem? hp⟩
  ·exact ⟨_,List.mem_of_getElem? hp⟩
 obtain ⟨k,hk⟩:=this
 obtain ⟨x,hx,e⟩:=List.mem_map.1 hk
 cases e
 exact (h.2 x hx).1
noncomputable def lPG:Res→Nd×Int×Int
 | .ret v _=>(match v with
  | .tup [a,b,c]=>(Gg0 a,vI b,vI c)
  | _=>(⟨0,[],[]⟩,0,0))
 | _=>(⟨0,[],[]⟩,0,0)
theorem Gu0 (its:List It) (h:YN0 its):Ok1 (fun X=>X.PG (.call 14 [.osl 4 (its.map itV)] Heap.empty)) fun a=>∃ x:Nd×Nat×Nat,zM0 (zv0 its) x∧a=(x.1,(x.2.1:Int),(x.2.2:Int)):=by
 obtain ⟨x,hx,N0,hN⟩:=yv2 (qm2 its h) (ZE2 its h)
 exact .tk (R:=rPG) (L:=lPG) (fun _=>rfl) (fun a=>by kernel_rfl) ⟨_,⟨(x.1,(x.2.1:Int),(x.2.2:Int)),rfl,x,hx,rfl⟩,N0,hN⟩
theorem MS.its {b:Int} {n:Nat} {l:List V} (h:MS b n l) (hb:b≤400000):∃ its:List It,l=its.map itV∧(its.length:Int)≤b∧YN0 its:=by
 obtain ⟨its,h1,h2,h3,h4⟩:=h
 exact ⟨its,h1,h3,by omega,h4⟩
theorem Gt1 (c d m:List UInt8) (hc:(c.length:Int)≤9223372036854775807) (hd:(d.length:Int)≤9223372036854775807) (hm:(m.length:Int)≤9223372036854775807):Tk (.call 5 [.osl 1 (c.map bV),.osl 1 (d.map bV),.osl 1 (m.map bV)] Heap.empty) (.ret (.bool true) Heap.empty):=by
 have key:∃ r,r=Res.ret (.bool true) Heap.empty∧Tk (.call 5 [.osl 1 (c.map bV),.osl 1 (d.map bV),.osl 1 (m.map bV)] Heap.empty) r:=by
  refine Tk.by (.of (fun n=>Kw1 (XM n) _ none some (c.map bV) (d.map bV) (m.map bV)) ?_)
  refine Rn.dec (fun _=>Rn.ret rfl) (fun _=>?_)
  refine Rn.bndO (Zf1 c d hc hd) (fun a1 ⟨n1,h1⟩=>?_)
  obtain ⟨its,rfl,hi1,hi2⟩:=h1.its (by omega)
  refine Rn.bndO (Gu0 its hi2) (fun a2 ⟨x,hx,ha2⟩=>?_)
  subst ha2
  dsimp only
  rw [List.length_map]
  refine Rn.ndec (fun _=>Rn.ret rfl) (fun h22=>?_)
  refine Rn.dec (fun _=>Rn.ret rfl) (fun hat=>?_)
  refine Rn.bndO (Zf1 m [] hm (by decide)) (fun a5 ⟨n5,h5⟩=>?_)
  obtain ⟨ys,rfl,hy1,hy2⟩:=h5.its (by omega)
  have hl:(zv0 its).length=its.length:=List.length_map ..
  have law:∀ (zs:List It) (r2 r3:Nd×Nat×Nat),zM0 (zv0 (its.take (x.2.2+1)++zs)) r2→zM0 (zv0 (its.take x.2.2)) r3→(r2.2.1=22∧r2.2.2=x.2.2∨r2.2.1=21)∧(r3.2.1=0∨r3.2.1=22∧r3.2.2=x.2.2):=fun zs r2 r3 p2 p3=>by
   have e2:zv0 (its.take (x.2.2+1)++zs)=(zv0 its).take (x.2.2+1)++zv0 zs:=by unfold zv0;rw [List.map_append,List.map_take]
   have e3:zv0 (its.take x.2.2)=(zv0 its).take x.2.2:=by unfold zv0;rw [List.map_take]
   rw [e2] at p2
   rw [e3] at p3
   exact Gs1 hx (by omega) (by omega) p2 p3
  have gt:∀ k (zs:List It),YN0 zs→zs.length≤400000→YN0 (its.take k++zs):=fun k zs hz hz2=>⟨by rw [List.length_append,List.length_take];omega,fun y hy=>by
   rcases List.mem_append.1 hy with h | h
   ·exact hi2.2 y (List.mem_of_mem_take h)
   ·exact hz.2 y h⟩
  have nt:Int.toNat ((x.2.2:Int)+1)=x.2.2+1:=by omega
  have nt2:Int.toNat (x.2.2:Int)=x.2.2:=by omega
  have fin:∀ (zs:List It) (r2:Nd×Nat×Nat),zM0 (zv0 (its.take (x.2.2+1)++zs)) r2→Rn (fun n=>need none (((0:Int)≤(x.2.2:Int))∧((x.2.2:Int)≤(its.length:Int))) (PR.bnd none ((XM n).PG (.call 14 [.osl 4 (List.take (Int.toNat (x.2.2:Int)) (its.map itV))] Heap.empty)) (fun a15 =>
   jn (bif decide (a15.2.1=0) then (some (.ret (.bool true) Heap.empty)) else (bif decide (a15.2.1=22) then (bif decide (a15.2.2=(x.2.2:Int)) then (some (.ret (.bool true) Heap.empty)) else (some (.ret (.bool false) Heap.empty))) else (some (.ret (.bool false) Heap.empty))))
   (fun j8=>jn (bif decide ((r2.2.1:Int)=21) then (j8) else (some (.ret (.bool false) Heap.empty)))
   (fun j7=>bif decide ((r2.2.1:Int)=22) then (bif decide ((r2.2.2:Int)=(x.2.2:Int)) then (j8) else (j7)) else (j7)))) (fun _=>none))) (fun r=>r=.ret (.bool true) Heap.empty):=fun zs r2 p2=>by
    refine Rn.need (by omega) ?_
    rw [nt2,← List.map_take]
    have g3:=gt x.2.2 [] ⟨by simp,fun y hy=>by cases hy⟩ (by simp)
    rw [List.append_nil] at g3
    refine Rn.bndO (Gu0 _ g3) (fun a3 ⟨r3,p3,ha3⟩=>?_)
    subst ha3
    obtain ⟨w1,w2⟩:=law zs r2 r3 p2 p3
    refine Rn.join ?_ (fun j8 hj8=>?_)
    ·refine Rn.dec (fun _=>Rn.ret rfl) (fun e0=>?_)
     have e0:¬ ((r3.2.1:Int)=0):=e0
     refine Rn.dec (fun _=>?_) (fun e1=>?_)
     ·exact Rn.dec (fun _=>Rn.ret rfl) (fun e2=>by have e2:¬ ((r3.2.2:Int)=(x.2.2:Int)):=e2;omega)
     ·have e1:¬ ((r3.2.1:Int)=22):=e1
      omega
    refine Rn.joinC (C:=¬ (r2.2.1=22∧r2.2.2=x.2.2)) (fun hC=>?_) (fun j7 hj7=>?_)
    ·exact Rn.dec (fun _=>hj8) (fun e=>by omega)
    ·refine Rn.dec (fun _=>?_) (fun e=>hj7 (by omega))
     exact Rn.dec (fun _=>hj8) (fun e=>hj7 (by omega))
  refine Rn.nI (by omega) ?_
  refine Rn.need (by omega) ?_
  have hne:List.take (Int.toNat ((x.2.2:Int)+1)) (its.map itV)≠[]:=List.ne_nil_of_length_pos (by rw [List.length_take,List.length_map];omega)
  refine Rn.cond (fun h=>absurd (qi2 h) hne) (fun _=>?_)
  have hG:GndR (List.take (Int.toNat ((x.2.2:Int)+1)) (its.map itV)):=by rw [← List.map_take];exact KK0 _
  refine Rn.need ⟨hne,by rw [List.length_take,List.length_map];omega,by rw [List.length_take,List.length_map];omega⟩ ?_
  refine Rn.cond (fun h=>?_) (fun h=>?_)
  ·refine Rn.need ⟨rfl,rfl,rfl,hG⟩ ?_
   rw [nt,← List.map_take]
   have g2:=gt (x.2.2+1) [] ⟨by simp,fun y hy=>by cases hy⟩ (by simp)
   have e0:its.take (x.2.2+1)=its.take (x.2.2+1)++[]:=(List.append_nil _).symm
   rw [e0]
   exact Rn.bndO (Gu0 _ g2) (fun a3 ⟨r2,p2,ha3⟩=>by subst ha3;exact fin [] r2 p2)
  ·refine Rn.need ⟨rfl,jk0 h,rfl,Nat.zero_le _,by rw [List.length_take,List.length_map,List.length_map];omega,by rw [List.length_take,List.length_map,List.length_map];omega⟩ ?_
   refine Rn.need ⟨rfl,rfl,by rw [List.length_append],fun y hy=>(List.mem_append.1 hy).elim (hG y) (KK0 _ y)⟩ ?_
   rw [nt,← List.map_take,← List.map_append]
   exact Rn.bndO (Gu0 _ (gt _ ys hy2 (by omega))) (fun a3 ⟨r2,p2,ha3⟩=>by subst ha3;exact fin ys r2 p2)
 obtain ⟨r,rfl,h⟩:=key
 exact h
def Qq2:T Bool:=(.n (.n (.n (.n (.n (.n (.n .e true (.n .e true .e)) false .e) false (.n (.n .e true .e) true (.n .e true .e))) false (.n (.n (.n .e true .e) false .e) false (.n .e true .e))) false (.n (.n (.n (.n .e false (.n .e true .e)) true (.n .e true .e)) false (.n (.n (.n .e true .e) true (.n .e true .e)) true (.n .e false (.n .e true .e)))) false (.n (.n (.n (.n .e true .e) true .e) true .e) false (.n (.n (.n .e true .e) false .e) false .e)))) false (.n (.n (.n (.n (.n (.n .e true .e) false .e) false (.n .e true (.n .e true .e))) false (.n (.n .e true .e) true (.n (.n .e true .e) true (.n .e true .e)))) false (.n (.n (.n .e true (.n .e true .e)) true .e) true (.n (.n (.n .e true .e) false (.n .e true .e)) false .e))) false (.n (.n (.n .e true .e) true (.n .e true (.n (.n .e true .e) false .e))) false (.n (.n (.n .e true .e) true .e) false (.n (.n .e true .e) false .e))))) false (.n (.n (.n (.n (.n (.n .e true .e) false (.n .e true .e)) false (.n (.n .e true .e) true (.n .e true (.n .e true .e)))) false (.n (.n (.n (.n .e true .e) true .e) false (.n (.n .e true .e) false .e)) true (.n .e true .e))) false (.n (.n (.n .e true (.n .e true .e)) true (.n .e true (.n (.n .e true .e) true (.n .e true .e)))) false (.n (.n (.n (.n .e true .e) true .e) true .e) false (.n (.n (.n .e true .e) false .e) false .e)))) false (.n (.n (.n (.n .e true (.n .e true .e)) false (.n (.n (.n .e true .e) true .e) true (.n .e true (.n .e true .e)))) false (.n (.n (.n .e true .e) true .e) true (.n (.n (.n .e true .e) false .e) false .e))) false (.n (.n (.n (.n (.n .e true .e) false (.n .e true .e)) true .e) false (.n .e true .e)) false (.n (.n (.n (.n .e true .e) true .e) true .e) false (.n (.n .e true .e) false .e))))))
def yG2:T Bool:=(.n (.n (.n (.n (.n .e false (.n (.n .e true .e) true (.n .e true .e))) false (.n .e false (.n .e true .e))) false (.n (.n .e false (.n (.n .e true .e) false .e)) false (.n (.n .e true .e) false (.n (.n (.n .e true .e) false .e) false .e)))) false (.n (.n (.n (.n .e false (.n .e true .e)) false (.n (.n .e true .e) true (.n .e true .e))) false (.n (.n (.n .e true .e) true .e) false (.n (.n (.n .e true .e) false .e) false .e))) false (.n (.n .e false (.n .e false (.n (.n .e true .e) false .e))) false (.n (.n (.n .e true .e) true .e) false .e)))) false (.n (.n (.n (.n (.n .e false (.n .e true .e)) false (.n .e true (.n .e true .e))) false .e) false (.n (.n .e false (.n .e true (.n .e true .e))) false (.n (.n .e true .e) false (.n (.n (.n .e true .e) false .e) false .e)))) false (.n (.n (.n (.n .e false (.n .e true .e)) false (.n (.n .e true .e) false (.n .e true .e))) false (.n (.n (.n .e true .e) true .e) true (.n (.n (.n .e true .e) false .e) false .e))) false (.n (.n .e false (.n .e true .e)) false (.n (.n .e true .e) false .e)))))
noncomputable def EK0:Env:={ shared:=T.get false Qq2,pubRet:=T.get false yG2,prim:=fun _ _=>none,glob:=KI0 }
theorem names:yI0 Tryz.prog:=zp2 (by kernel_rfl)
theorem snd0:Snd Tryz.prog EK0 (run Tryz.prog EK0 1000000):=yc1 names (yt2 rfl) _
theorem Jc1:yF1=asciiZ.map (V.int .u8):=by kernel_rfl
def ym1:List (List UInt8×V):=[([97,110,100,32,97,115,32,98,114,101,97,107,32,99,97,116,99,104,32,100,101,102,32,101,108,105,102,32,101,108,115,101,32,101,110,100,32,102,111,114,101,97,99,104,32,105,102,32,105,109,112,111,114,116,32,105,110,99,108,117,100,101,32,108,97,98,101,108,32,109,111,100,117,108,101,32,111,114,32,114,101,100,117,99,101,32,116,104,101,110,32,116,114,121],(.fsl 9 1 0 [(.str [97,110,100]),(.str [97,115]),(.str [98,114,101,97,107]),(.str [99,97,116,99,104]),(.str [100,101,102]),(.str [101,108,105,102]),(.str [101,108,115,101]),(.str [101,110,100]),(.str [102,111,114,101,97,99,104]),(.str [105,102]),(.str [105,109,112,111,114,116]),(.str [105,110,99,108,117,100,101]),(.str [108,97,98,101,108]),(.str [109,111,100,117,108,101]),(.str [111,114]),(.str [114,101,100,117,99,101]),(.str [116,104,101,110]),(.str [116,114,121])] (.some 18))),([124],(.fsl 9 1 0 [(.str [124])] (.some 1))),([44],(.fsl 9 1 0 [(.str [44])] (.some 1))),([47,47],(.fsl 9 1 0 [(.str [47,47])] (.some 1))),([61,32,124,61,32,43,61,32,45,61,32,42,61,32,47,61,32,37,61,32,47,47,61],(.fsl 9 1 0 [(.str [61]),(.str [124,61]),(.str [43,61]),(.str [45,61]),(.str [42,61]),(.str [47,61]),(.str [37,61]),(.str [47,47,61])] (.some 8))),([111,114],(.fsl 9 1 0 [(.str [111,114])] (.some 1))),([97,110,100],(.fsl 9 1 0 [(.str [97,110,100])] (.some 1))),([61,61,32,33,61,32,60,32,60,61,32,62,32,62,61],(.fsl 9 1 0 [(.str [61,61]),(.str [33,61]),(.str [60]),(.str [60,61]),(.str [62]),(.str [62,61])] (.some 6))),([43,32,45],(.fsl 9 1 0 [(.str [43]),(.str [45])] (.some 2))),([42,32,47,32,37],(.fsl 9 1 0 [(.str [42]),(.str [47]),(.str [37])] (.some 3)))]
theorem Yq1:ckT Tryz.prog EK0 1000000 200 ym1=true:=by kernel_rfl
def zs1:List (FuncId×List (List UInt8×V)):=[(200,ym1)]
noncomputable def E1:Env:={ EK0 with prim:=XD0 zs1 [] }
theorem prim1:yJ0 Tryz.prog E1:=zv1 (TT:=zs1) (T0:=[]) rfl (fun p hp=>by
 simp only [zs1,List.mem_cons,List.not_mem_nil,or_false] at hp
 subst hp
 exact Xg0 snd0 Yq1
 ) (fun q hq=>by cases hq)
theorem snd1:Snd Tryz.prog E1 (run Tryz.prog E1 1000000):=yc1 names prim1 _
def Yr1:List (List UInt8×V):=[([],(.int .i64 0)),([124],(.int .i64 1)),([44],(.int .i64 2)),([47,47],(.int .i64 3)),([61],(.int .i64 4)),([124,61],(.int .i64 4)),([43,61],(.int .i64 4)),([45,61],(.int .i64 4)),([42,61],(.int .i64 4)),([47,61],(.int .i64 4)),([37,61],(.int .i64 4)),([47,47,61],(.int .i64 4)),([111,114],(.int .i64 5)),([97,110,100],(.int .i64 6)),([61,61],(.int .i64 7)),([33,61],(.int .i64 7)),([60],(.int .i64 7)),([60,61],(.int .i64 7)),([62],(.int .i64 7)),([62,61],(.int .i64 7)),([43],(.int .i64 8)),([45],(.int .i64 8)),([42],(.int .i64 9)),([47],(.int .i64 9)),([37],(.int .i64 9))]
theorem Zb2:ckT Tryz.prog E1 1000000 118 Yr1=true:=by kernel_rfl
def Ys1:List (List UInt8×V):=[([],(.int .i64 0)),([124],(.int .i64 1)),([44],(.int .i64 3)),([47,47],(.int .i64 3)),([61],(.int .i64 5)),([124,61],(.int .i64 5)),([43,61],(.int .i64 5)),([45,61],(.int .i64 5)),([42,61],(.int .i64 5)),([47,61],(.int .i64 5)),([37,61],(.int .i64 5)),([47,47,61],(.int .i64 5)),([111,114],(.int .i64 6)),([97,110,100],(.int .i64 7)),([61,61],(.int .i64 8)),([33,61],(.int .i64 8)),([60],(.int .i64 8)),([60,61],(.int .i64 8)),([62],(.int .i64 8)),([62,61],(.int .i64 8)),([43],(.int .i64 9)),([45],(.int .i64 9)),([42],(.int .i64 10)),([47],(.int .i64 10)),([37],(.int .i64 10))]
theorem Zc2:ckT Tryz.prog E1 1000000 119 Ys1=true:=by kernel_rfl
def tSide:List (List UInt8×V):=[([],(.int .i64 0)),([124],(.int .i64 2)),([44],(.int .i64 1)),([47,47],(.int .i64 2)),([61],(.int .i64 0)),([124,61],(.int .i64 0)),([43,61],(.int .i64 0)),([45,61],(.int .i64 0)),([42,61],(.int .i64 0)),([47,61],(.int .i64 0)),([37,61],(.int .i64 0)),([47,47,61],(.int .i64 0)),([111,114],(.int .i64 1)),([97,110,100],(.int .i64 1)),([61,61],(.int .i64 0)),([33,61],(.int .i64 0)),([60],(.int .i64 0)),([60,61],(.int .i64 0)),([62],(.int .i64 0)),([62,61],(.int .i64 0)),([43],(.int .i64 1)),([45],(.int .i64 1)),([42],(.int .i64 1)),([47],(.int .i64 1)),([37],(.int .i64 1))]
theorem Zd2:ckT Tryz.prog E1 1000000 120 tSide=true:=by kernel_rfl
def zt1:List (FuncId×List (List UInt8×V)):=[(200,ym1),(118,Yr1),(119,Ys1),(120,tSide)]
noncomputable def E2:Env:={ EK0 with prim:=XD0 zt1 [] }
theorem prim2:yJ0 Tryz.prog E2:=zv1 (TT:=zt1) (T0:=[]) rfl (fun p hp=>by
 simp only [zt1,List.mem_cons,List.not_mem_nil,or_false] at hp
 rcases hp with rfl | rfl | rfl | rfl
 ·exact Xg0 snd0 Yq1
 ·exact Xg0 snd1 Zb2
 ·exact Xg0 snd1 Zc2
 ·exact Xg0 snd1 Zd2
 ) (fun q hq=>by cases hq)
theorem snd2:Snd Tryz.prog E2 (run Tryz.prog E2 1000000):=yc1 names prim2 _
theorem globOk {S:Nat→Nat→Option Value} (h:∀ i,i<256→S 0 i=some (.int .u8 (asciiZ.getD i 0))):GlobOk KI0 S:=by
 intro gl x hx
 unfold KI0 at hx
 obtain ⟨hb,hx⟩:=qj0 hx rfl
 rw [Nat.beq_eq] at hb;subst hb
 cases hx
 rw [Jc1]
 exact tab_gr (by kernel_rfl) (by decide) h
noncomputable def resO (r:Res):Option V:=match r with
 | .ret y hc=>Yy0 hc y
 | _=>none
theorem zN1 {P:Program} {E:Env} {ih:Task→Res} (hS:Snd P E ih) {f:FuncId} {gs:List V} {v:V} (h:resO (ih (.call f gs Heap.empty))=some v):PureOk P E.glob f gs v:=by
 unfold resO at h
 split at h
 ·rename_i y hc hr
  exact PureOk.of_run hS hr h
 ·cases h
theorem ys2:∀ q,q∈Gt0→PureOk PP EP.glob q.1 [] q.2:=fun q hq=>by
 simp only [Gt0,List.mem_cons,List.not_mem_nil,or_false] at hq
 rcases hq with rfl | rfl | rfl
 ·exact zN1 (hS:=snd2) (by kernel_rfl)
 ·exact zN1 (hS:=snd2) (by kernel_rfl)
 ·exact zN1 (hS:=snd2) (by kernel_rfl)
theorem primP:yJ0 PP EP:=zv1 (TT:=[]) (T0:=Gt0) rfl (fun p hp=>by cases hp) ys2
/-- A machine's run is a contract. -/
theorem cx_rn {P:Program} {E:Env} {C:Cf} {N:Nat} {f:FuncId} {args:List V} {h h':Heap} {v:V} (hr:rn P E C N (.call f args h)=.ret v h') {R':V→Heap→Prop} (hR:R' v h'):Cx P E f args h R':=fun hF _ _ _ _ cs us hW hG hs=>⟨v,h',hR,by
 have:=(rn_snd (C:=C) hF.names hF.prim N).call cs f args us hW hG hs
 rw [hr] at this
 exact this⟩
theorem Cx.told {P:Program} {E:Env} {f:FuncId} {a b:List V} {h:Heap} {R':V→Heap→Prop} (hw:Wks b a) (H:Cx P E f a h R'):Cx P E f b h R':=fun hF _ _ _ _ cs us hW hG hs=>H hF cs us hW hG (hw.rs hs)
theorem Bs.wk {x:V} {l:List UInt8} (h:Bs x l):Wk x (.osl 1 (l.map bV)):=by
 rcases h with ⟨rfl,rfl⟩ | rfl
 ·exact Wk.nils 1
 ·exact Wk.gsl
theorem bytes_len {P:Program} {W:World} {r:Reach} {b0:Nat} {t e:TypeId} {v:Value} {x:V} {l:List UInt8} {g:Gh} (ht:P.underlying t=some (.slice e)) (h:Value.okWide P W r b0 t v) (hx:Bs x l) (hR:R g v x):(l.length:Int)≤9223372036854775807:=by
 rcases hx with ⟨_,rfl⟩ | rfl
 ·decide
 ·have hg:=hR.gsl_inv
  cases hg with
  | @gsl b off _ cap _ _ val hsz hc hS hcap hle hh =>
   simp only [Value.okWide,ht,Cell.okWide] at h
   unfold Cell.ok at h
   rw [ht] at h
   dsimp only at h
   obtain ⟨h1,h2,_⟩:=h
   rw [List.length_map] at h1
   have h3:(cap:Int)≤9223372036854775807:=h2
   omega
theorem wks3 {a b c a' b' c':V} (h0:Wk a a') (h1:Wk b b') (h2:Wk c c'):Wks [a,b,c] [a',b',c']:=by
 refine ⟨rfl,fun i x y p q=>?_⟩
 match i,p,q with
 | 0,p,q=>cases p;cases q;exact h0
 | 1,p,q=>cases p;cases q;exact h1
 | 2,p,q=>cases p;cases q;exact h2
 | i+3,p,q=>cases p
theorem parseFirst_walk (x0:V) (l0:List UInt8) (h0:Bs x0 l0) (b0:(l0.length:Int)≤9223372036854775807) (x1:V) (l1:List UInt8) (h1:Bs x1 l1) (b1:(l1.length:Int)≤9223372036854775807) (x2:V) (l2:List UInt8) (h2:Bs x2 l2) (b2:(l2.length:Int)≤9223372036854775807):Cx PP EP 5 [x0,x1,x2] Heap.empty (fun v _=>v=.bool true):=by
 obtain ⟨n,h⟩:=Gt1 l0 l1 l2 b0 b1 b2
 exact Cx.told (wks3 h0.wk h1.wk h2.wk) (cx_rn (h n (Nat.le_refl n)) rfl)
end Go.AM
