/-
  AN ABSTRACT MACHINE that runs a program over z81 data is sound against the model (a part of it). No condition but what each theorem says.
-/
import Derived.ChangeMaps5
import Derived.ChangeSlices
import Derived.OpenShut
import Derived.Test.YtejbaikaiifpaaaDoorLaysP3
namespace Go.AM
open Go.RowKit
variable {P:Program} {E:Env}
noncomputable def Fr.st (fr:Fr) (d:Tmp) (v:V):Fr:={ fr with tm:=fr.tm.set undef v d }
noncomputable def Fr.at' (fr:Fr) (i:Tmp):V:=fr.tm.get undef i
theorem Fr.at_st (fr:Fr) (d i:Tmp) (v:V):(fr.st d v).at' i=if d=i then v else fr.at' i:=T.get_set _ _ _ _ _
theorem Fr.put_st {fr:Fr} {d:Tmp} {v:V} (h:Nat.blt d fr.n=true):fr.put (some d) v=some (fr.st d v):=by
 change Fr.putD d fr v=_
 obtain ⟨fn,n,tm,marks,defers,round,dk,did⟩:=fr
 change (Bool.rec none (some ⟨fn,n,tm.set undef v d,marks,defers,round,dk,did⟩) (Nat.blt d n):Option Fr)=_
 change Nat.blt d n=true at h
 rw [h]
 rfl
theorem Fr.put_no {fr:Fr} {d:Tmp} {v:V} (h:Nat.blt d fr.n=false):fr.put (some d) v=none:=by
 change Fr.putD d fr v=_
 obtain ⟨fn,n,tm,marks,defers,round,dk,did⟩:=fr
 change (Bool.rec none (some ⟨fn,n,tm.set undef v d,marks,defers,round,dk,did⟩) (Nat.blt d n):Option Fr)=_
 change Nat.blt d n=false at h
 rw [h]
def xj2:V→Bool
 | .fsl _ _ _ _ _=>true
 | _=>false
structure Le (s' s:Fr):Prop where
 fn:s.fn=s'.fn
 n:s.n=s'.n
 marks:s.marks=s'.marks
 defers:s.defers=s'.defers
 round:s.round=s'.round
 dk:s.dk=s'.dk
 did:s.did=s'.did
 slot:∀ i,i<s.n→s'.at' i=lost∨s'.at' i=s.at' i
 out:∀ i,s.n≤i→s'.at' i=undef∨s'.at' i=lost
theorem Le.ok {s s':Fr} (hl:Le s' s) {g:Gh} {b:Frame} {a:Act} (hf:FrOk g b s a):FrOk g b s' a:=by
 refine ⟨hf.fn.trans hl.fn,⟨hf.slots.size.trans hl.n,fun i v hv=>?_,fun i hi=>hl.out i (by rw [hl.n];exact hi)⟩,by rw [← hl.round];exact hf.round,by rw [← hl.marks,← hl.defers];exact hf.marks⟩
 have hi:i<s.n:=by rw [← hf.slots.size];exact q33 hv
 rcases hl.slot i hi with e | e
 ·exact .inl e
 ·change s'.at' i=lost∨R g v (s'.at' i)
  rw [e];exact hf.slots.rel i v hv
noncomputable def qj1 (k:Nat):T V:=Nat.rec .e (fun _ ih=>.n ih lost ih) k
noncomputable def mkT (n:Nat) (L:List (Nat×V)):T V:=List.rec (qj1 (qa0 n)) (fun p _ ih=>bif Nat.blt p.1 n then ih.set undef p.2 p.1 else ih) L
noncomputable def Fr.on (b:Fr) (L:List (Nat×V)):Fr:={ b with tm:=mkT b.n L }
def base (f n:Nat):Fr:=⟨f,n,.e,[],[],none,none,false⟩
noncomputable def q96 (s:Fr) (ks:List Nat):List (Nat×V):=List.rec [] (fun k _ ih=>(k,s.at' k)::ih) ks
theorem xn3 (k:Nat):∀ i,(qj1 k).get undef i=undef∨(qj1 k).get undef i=lost:=by
 induction k with
 | zero=>intro i;exact .inl rfl
 | succ k IH =>
  intro i
  change T.get undef (.n (qj1 k) lost (qj1 k)) i=undef∨T.get undef (.n (qj1 k) lost (qj1 k)) i=lost
  cases i with
  | zero=>exact .inr rfl
  | succ i =>
   rw [T.get_n_succ]
   by_cases hm:i%2=0
   ·rw [T.pick_even _ _ _ hm];exact IH _
   ·rw [T.pick_odd _ _ _ hm];exact IH _
theorem xj3 (k:Nat):∀ i,i<2^k-1→(qj1 k).get undef i=lost:=by
 induction k with
 | zero=>intro i h;simp at h
 | succ k IH =>
  intro i h
  change T.get undef (.n (qj1 k) lost (qj1 k)) i=lost
  cases i with
  | zero=>rfl
  | succ i =>
   rw [T.get_n_succ]
   have h2:i/2<2^k-1:=by
    have:2^(k+1)=2*2^k:=by rw [Nat.pow_succ];omega
    omega
   by_cases hm:i%2=0
   ·rw [T.pick_even _ _ _ hm];exact IH _ h2
   ·rw [T.pick_odd _ _ _ hm];exact IH _ h2
theorem xn0 (n:Nat):n≤2^qa0 n-1:=by
 have:n<2^qa0 n:=by unfold qa0;exact Nat.lt_log2_self
 omega
theorem zw4 (n:Nat) (p:Nat×V) (L:List (Nat×V)):mkT n (p::L)=bif Nat.blt p.1 n then (mkT n L).set undef p.2 p.1 else mkT n L:=rfl
theorem qx0 (n:Nat) (L:List (Nat×V)) (i:Nat) (hi:i<n):(mkT n L).get undef i=lost∨(∃ v,(i,v)∈L∧(mkT n L).get undef i=v):=by
 induction L with
 | nil=>exact .inl (xj3 _ _ (Nat.lt_of_lt_of_le hi (xn0 n)))
 | cons p L IH =>
  rw [zw4]
  have IH':(mkT n L).get undef i=lost∨∃ v,(i,v)∈p::L∧(mkT n L).get undef i=v:=IH.imp id fun ⟨v,hm,hv⟩=>⟨v,by simp [hm],hv⟩
  cases hb:Nat.blt p.1 n with
  | false=>exact IH'
  | true =>
   change ((mkT n L).set undef p.2 p.1).get undef i=lost∨∃ v,(i,v)∈p::L∧((mkT n L).set undef p.2 p.1).get undef i=v
   rw [T.get_set]
   by_cases h:p.1=i
   ·rw [if_pos h];exact .inr ⟨p.2,by subst h;simp,rfl⟩
   ·rw [if_neg h];exact IH'
theorem qo8 (n:Nat) (L:List (Nat×V)) (i:Nat) (hi:n≤i):(mkT n L).get undef i=undef∨(mkT n L).get undef i=lost:=by
 induction L with
 | nil=>exact xn3 (qa0 n) i
 | cons p L IH =>
  rw [zw4]
  cases hb:Nat.blt p.1 n with
  | false=>exact IH
  | true =>
   rw [Nat.blt_eq] at hb
   change ((mkT n L).set undef p.2 p.1).get undef i=undef∨((mkT n L).set undef p.2 p.1).get undef i=lost
   rw [T.get_set,if_neg (by omega)];exact IH
theorem qu2 {s:Fr} {ks:List Nat} {i:Nat} {v:V} (h:(i,v)∈q96 s ks):v=s.at' i:=by
 induction ks with
 | nil=>cases h
 | cons k ks IH =>
  change (i,v)∈(k,s.at' k)::q96 s ks at h
  rcases List.mem_cons.1 h with h | h
  ·cases h;rfl
  ·exact IH h
theorem Le.keep {s b:Fr} {ks:List Nat} {L:List (Nat×V)} (hk:q96 s ks=L) (h1:b.fn=s.fn) (h2:b.n=s.n) (h3:b.marks=s.marks) (h4:b.defers=s.defers) (h5:b.round=s.round) (h6:b.dk=s.dk) (h7:b.did=s.did):Le (b.on L) s:=by
 refine ⟨h1.symm,h2.symm,h3.symm,h4.symm,h5.symm,h6.symm,h7.symm,fun i hi=>?_,fun i hi=>qo8 b.n L i (by rw [h2];exact hi)⟩
 change (mkT b.n L).get undef i=lost∨(mkT b.n L).get undef i=s.at' i
 rcases qx0 b.n L i (by rw [h2];exact hi) with e | ⟨v,hv,e⟩
 ·exact .inl e
 ·subst hk
  have:=qu2 hv
  subst this
  exact .inr e
theorem Le.on {b:Fr} {L L':List (Nat×V)} (ks:List Nat) (hk:q96 (b.on L) ks=L'):Le (b.on L') (b.on L):=Le.keep (b:=b) hk rfl rfl rfl rfl rfl rfl rfl
theorem Le.refl {b:Fr} {L:List (Nat×V)}:Le (b.on L) (b.on L):=⟨rfl,rfl,rfl,rfl,rfl,rfl,rfl,fun _ _=>.inr rfl,fun i hi=>qo8 b.n L i hi⟩
structure Fine (P:Program) (E:Env):Prop where
 prim:q86 P E
 names:qk4 P
def Dom (N:Nat) (g:Gh):Prop:=∀ r,N≤r→g.mu r=none∧g.vr r=none
theorem W.domain {B:Nat} {w0 w:World} {g:Gh} {h:Heap} (hW:W B w0 g h w):Dom h.n g:=fun r hr=>by
 obtain ⟨h1,h2⟩:=hW.out r hr
 exact ⟨h1,by rw [hW.ver,h2]⟩
def KX (K:Fr→Heap→Prop) (X:Ex→Fr→Heap→Prop):Ex→Fr→Heap→Prop
 | .normal=>K
 | e=>X e
def Ends (P:Program) (K:Fr→Heap→Prop) (X:Ex→Fr→Heap→Prop) (B:Nat) (w0:World) (g0:Gh) (b:Frame) (k:List Item) (cs:List Frame) (m:Machine):Prop :=
 ∃ e s h g a w,Grown B g0 g∧W B w0 g h w∧FrOk g b s a∧Arr P m b k cs g a w e∧KX K X e s h
def Wc (P:Program) (E:Env) (c:Code) (s:Fr) (h:Heap) (K:Fr→Heap→Prop) (X:Ex→Fr→Heap→Prop) (N:Nat):Prop :=
 Fine P E→∀ {B:Nat} {w0:World} {g0 g:Gh} {w:World} (a:Act) (b:Frame) (k:List Item) (cs:List Frame),Dom N g0→Grown B g0 g→W B w0 g h w→x9 E.glob g0.S→FrOk g b s a →
  Ends P K X B w0 g0 b k cs (lone (b.atR a (.code c::k)) cs w)
def Wl (P:Program) (E:Env) (all l:List Oper) (s:Fr) (h:Heap) (K:Fr→Heap→Prop) (X:Ex→Fr→Heap→Prop) (N:Nat):Prop :=
 Fine P E→∀ {B:Nat} {w0:World} {g0 g:Gh} {w:World} (a:Act) (b:Frame) (k:List Item) (cs:List Frame) (ops:Array Oper) (i:Nat),ops.toList=all→all.drop i=l→Dom N g0→Grown B g0 g→W B w0 g h w→x9 E.glob g0.S→FrOk g b s a →
  Ends P K X B w0 g0 b k cs (lone (b.atR a (.inRegion ops (List.range' i l.length)::k)) cs w)
variable {K:Fr→Heap→Prop} {X:Ex→Fr→Heap→Prop} {N:Nat}
section ends
variable {B:Nat} {w0:World} {g0:Gh} {b:Frame} {k:List Item} {cs:List Frame} {m m':Machine}
theorem Ends.steps (hs:Steps P m m') (h:Ends P K X B w0 g0 b k cs m'):Ends P K X B w0 g0 b k cs m:=by
 obtain ⟨e,s,h,g,a,w,h1,h2,h3,h4,h5⟩:=h
 exact ⟨e,s,h,g,a,w,h1,h2,h3,.of_steps hs h4,h5⟩
theorem Ends.mono {K':Fr→Heap→Prop} {X':Ex→Fr→Heap→Prop} (h:Ends P K X B w0 g0 b k cs m) (h1:∀ s h,K s h→K' s h) (h2:∀ e s h,X e s h→X' e s h):Ends P K' X' B w0 g0 b k cs m:=by
 obtain ⟨e,s,h,g,a,w,q1,q2,q3,q4,q5⟩:=h
 refine ⟨e,s,h,g,a,w,q1,q2,q3,q4,?_⟩
 cases e with
 | normal=>exact h1 _ _ q5
 | _=>exact h2 _ _ _ q5
theorem Ends.pass {K':Fr→Heap→Prop} {x:Item} (hx:∀ id,exitTo id (x::k)=exitTo id k) (h:Ends P K' X B w0 g0 b (x::k) cs m)
  (hn:∀ s h g a w,Grown B g0 g→W B w0 g h w→FrOk g b s a→K' s h→Ends P K X B w0 g0 b k cs (lone (b.atR a (x::k)) cs w)):Ends P K X B w0 g0 b k cs m:=by
 obtain ⟨e,s,h,g,a,w,h1,h2,h3,h4,h5⟩:=h
 cases e with
 | normal=>exact .steps h4 (hn s h g a w h1 h2 h3 h5)
 | exit id=>obtain ⟨todo,p,q⟩:=h4;exact ⟨.exit id,s,h,g,a,w,h1,h2,h3,⟨todo,p.trans (hx id),q⟩,h5⟩
 | goto l=>exact h4.elim
 | ret=>exact ⟨.ret,s,h,g,a,w,h1,h2,h3,h4,h5⟩
 | panic y=>exact ⟨.panic y,s,h,g,a,w,h1,h2,h3,h4,h5⟩
end ends
noncomputable def qd7 (s:Fr):Operand→Bool
 | .tmp t=>Nat.blt t s.n&&!(xj2 (s.at' t))
 | _=>true
def xv5 (m:Machine):Option Frame:=(m.gs[0]?).map fun g=>g.frame
theorem ze9 (fr:Frame) (cs:List Frame) (w:World):xv5 (lone fr cs w)=some fr:=rfl
theorem Steps.same {m m' m1 t:Machine} (h:Go.step P m=.next m1) (h':Go.step P m'=.next m1) (hne:m≠t) (hs:Steps P m t):Steps P m' t:=by
 obtain ⟨n,hn⟩:=hs
 cases n with
 | zero=>simp [runN] at hn;exact absurd hn hne
 | succ n =>
  simp only [runN,h] at hn
  exact .head h' ⟨n,hn⟩
theorem xu8 {b:Frame} {a0 a:Act} {k:List Item} {cs:List Frame} {g:Gh} {w0 w:World} {m' m1:Machine} {c:Code} {e:Ex} (h:Go.step P (lone (b.atR a0 (.code (.loop c)::k)) cs w0)=.next m1) (h':Go.step P m'=.next m1) (hA:Arr P (lone (b.atR a0 (.code (.loop c)::k)) cs w0) b k cs g a w e):Arr P m' b k cs g a w e:=by
 have ne:∀ (fr:Frame) cs' w',(fr.todo=k∨(∃ id todo,fr.todo=.code (.exit id)::todo)∨(∃ todo,fr.todo=.code .ret::todo)∨fr.mode≠.run)→lone (b.atR a0 (.code (.loop c)::k)) cs w0≠lone fr cs' w':=by
  intro fr cs' w' hq e
  have e:=congrArg xv5 e
  rw [ze9,ze9] at e
  have e:=Option.some.inj e
  subst e
  rcases hq with q | ⟨_,_,q⟩ | ⟨_,q⟩ | q
  ·have:=congrArg List.length q
   simp [Frame.atR] at this
  ·simp [Frame.atR] at q
  ·simp [Frame.atR] at q
  ·exact q rfl
 cases e with
 | normal=>exact Steps.same h h' (ne _ _ _ (.inl rfl)) hA
 | exit id=>obtain ⟨todo,p,q⟩:=hA;exact ⟨todo,p,Steps.same h h' (ne _ _ _ (.inr (.inl ⟨_,_,rfl⟩))) q⟩
 | goto l=>exact hA.elim
 | ret=>obtain ⟨todo,q⟩:=hA;exact ⟨todo,Steps.same h h' (ne _ _ _ (.inr (.inr (.inl ⟨_,rfl⟩)))) q⟩
 | panic y=>obtain ⟨v,todo,p,q⟩:=hA;exact ⟨v,todo,p,Steps.same h h' (ne _ _ _ (.inr (.inr (.inr (by simp))))) q⟩
theorem Wc.weak {c:Code} {s s':Fr} {h:Heap} (hl:Le s' s) (hw:Wc P E c s' h K X N):Wc P E c s h K X N:=fun hF _ _ _ _ _ a b k cs hD hg hW hG hf=>hw hF a b k cs hD hg hW hG (hl.ok hf)
theorem Wc.mono {c:Code} {s:Fr} {h:Heap} {K':Fr→Heap→Prop} {X':Ex→Fr→Heap→Prop} (hw:Wc P E c s h K X N) (h1:∀ s h,K s h→K' s h) (h2:∀ e s h,X e s h→X' e s h):Wc P E c s h K' X' N :=
 fun hF _ _ _ _ _ a b k cs hD hg hW hG hf=>(hw hF a b k cs hD hg hW hG hf).mono h1 h2
theorem Wc.seq {a b:Code} {s:Fr} {h:Heap} (ha:Wc P E a s h (fun s1 h1=>Wc P E b s1 h1 K X N) X N):Wc P E (.seq a b) s h K X N :=
 fun hF _ _ _ _ _ ac fr k cs hD hg hW hG hf=>.steps (.one stepR_seq) (.pass (fun _=>rfl) (ha hF ac fr (.code b::k) cs hD hg hW hG hf) fun _ _ _ a' _ q1 q2 q3 q4=>q4 hF a' fr k cs hD q1 q2 hG q3)
theorem Wc.skip {s:Fr} {h:Heap} (hq:K s h):Wc P E .skip s h K X N:=fun _ _ _ _ g w a _ _ _ _ hg hW _ hf=>⟨.normal,s,h,g,a,w,hg,hW,hf,.one stepR_skip,hq⟩
theorem Wc.label {l:Nat} {s:Fr} {h:Heap} (hq:K s h):Wc P E (.label l) s h K X N:=fun _ _ _ _ g w a _ _ _ _ hg hW _ hf=>⟨.normal,s,h,g,a,w,hg,hW,hf,.one stepR_label,hq⟩
theorem Wc.ret {s:Fr} {h:Heap} (hq:X .ret s h):Wc P E .ret s h K X N:=fun _ _ _ _ g w a _ k _ _ hg hW _ hf=>⟨.ret,s,h,g,a,w,hg,hW,hf,⟨k,Steps.refl _ _⟩,hq⟩
theorem Wc.exit {id:Nat} {s:Fr} {h:Heap} (hq:X (.exit id) s h):Wc P E (.exit id) s h K X N:=fun _ _ _ _ g w a _ k _ _ hg hW _ hf=>⟨.exit id,s,h,g,a,w,hg,hW,hf,⟨k,rfl,Steps.refl _ _⟩,hq⟩
theorem Wc.scope {b:Code} {s:Fr} {h:Heap} (hb:Wc P E b s h K X N):Wc P E (.scope b) s h K X N :=
 fun hF _ _ _ _ _ ac fr k cs hD hg hW hG hf=>.steps (.one za1) (.pass (x:=.inScope b) (fun _=>rfl) (hb hF ac fr (.inScope b::k) cs hD hg hW hG hf) fun s1 h1 g1 a1 w1 q1 q2 q3 q4=>⟨.normal,s1,h1,g1,a1,w1,q1,q2,q3,.one z29,q4⟩)
theorem Wc.cond {c:Operand} {a b:Code} {s:Fr} {h:Heap} (t:Bool) (_hk:qd7 s c=true) (hc:ev E.glob s.tm c=some (.bool t)) (h1:t=true→Wc P E a s h K X N) (h2:t=false→Wc P E b s h K X N):Wc P E (.cond c a b) s h K X N:=by
 intro hF _ _ _ _ _ ac fr k cs hD hg hW hG hf
 have hv:=(k6 hf.slots (hG.mono hg.ext.S) hc).bool_inv
 refine .steps (.one (stepR_cond hv)) ?_
 cases t with
 | true=>exact h1 rfl hF ac fr k cs hD hg hW hG hf
 | false=>exact h2 rfl hF ac fr k cs hD hg hW hG hf
theorem Wc.condP {c:Operand} {a b:Code} {s:Fr} {h:Heap} {p:Prop} [Decidable p] (hk:qd7 s c=true) (hc:ev E.glob s.tm c=some (.bool (decide p))) (h1:p→Wc P E a s h K X N) (h2:¬ p→Wc P E b s h K X N):Wc P E (.cond c a b) s h K X N :=
 Wc.cond (decide p) hk hc (fun h=>h1 (of_decide_eq_true h)) (fun h=>h2 (of_decide_eq_false h))
theorem Wc.condN {c:Operand} {a b:Code} {s:Fr} {h:Heap} {p:Prop} [Decidable p] (hk:qd7 s c=true) (hc:ev E.glob s.tm c=some (.bool (!decide p))) (h1:¬ p→Wc P E a s h K X N) (h2:p→Wc P E b s h K X N):Wc P E (.cond c a b) s h K X N :=
 Wc.cond (!decide p) hk hc (fun h=>h1 (by simpa using h)) (fun h=>h2 (by simpa using h))
theorem Wc.condT {c:Operand} {a b:Code} {s:Fr} {h:Heap} (hk:qd7 s c=true) (hc:ev E.glob s.tm c=some (.bool true)) (h1:Wc P E a s h K X N):Wc P E (.cond c a b) s h K X N:=Wc.cond true hk hc (fun _=>h1) (fun h=>by cases h)
theorem Wc.condF {c:Operand} {a b:Code} {s:Fr} {h:Heap} (hk:qd7 s c=true) (hc:ev E.glob s.tm c=some (.bool false)) (h1:Wc P E b s h K X N):Wc P E (.cond c a b) s h K X N:=Wc.cond false hk hc (fun h=>by cases h) (fun _=>h1)
def z8 (id:Nat) (K:Fr→Heap→Prop) (X:Ex→Fr→Heap→Prop):Ex→Fr→Heap→Prop
 | .exit id'=>bif Nat.beq id' id then K else X (.exit id')
 | e=>X e
theorem Wc.block {id:Nat} {b:Code} {s:Fr} {h:Heap} (hb:Wc P E b s h K (z8 id K X) N):Wc P E (.block id b) s h K X N:=by
 intro hF _ _ _ _ _ ac fr k cs hD hg hW hG hf
 refine .steps (.one stepR_block) ?_
 obtain ⟨e,s,h,g,a,w,h1,h2,h3,h4,h5⟩:=hb hF ac fr (.inBlock id::k) cs hD hg hW hG hf
 cases e with
 | normal=>exact ⟨.normal,s,h,g,a,w,h1,h2,h3,Steps.trans h4 (.one stepR_inBlock),h5⟩
 | exit id' =>
  obtain ⟨todo,p,q⟩:=h4
  change (bif Nat.beq id' id then K else X (.exit id')) s h at h5
  cases hb:Nat.beq id' id with
  | true =>
   rw [hb] at h5
   rw [Nat.beq_eq] at hb;subst hb
   have h3':exitTo id' todo=some k:=by rw [p];simp [exitTo]
   exact ⟨.normal,s,h,g,a,w,h1,h2,h3,q.trans (.one (stepR_exit h3')),h5⟩
  | false =>
   rw [hb] at h5
   have hne:(id == id')=false:=by
    simp only [beq_eq_false_iff_ne,ne_eq]
    intro e;subst e;simp at hb
   exact ⟨.exit id',s,h,g,a,w,h1,h2,h3,⟨todo,by rw [p];simp [exitTo,hne],q⟩,h5⟩
 | goto l=>exact h4.elim
 | ret=>exact ⟨.ret,s,h,g,a,w,h1,h2,h3,h4,h5⟩
 | panic y=>exact ⟨.panic y,s,h,g,a,w,h1,h2,h3,h4,h5⟩
theorem z8.here {id:Nat} {s:Fr} {h:Heap} (hq:K s h):z8 id K X (.exit id) s h:=by
 change (bif Nat.beq id id then K else X (.exit id)) s h
 rw [Nat.beq_refl];exact hq
theorem z8.out {id id':Nat} {s:Fr} {h:Heap} (hi:Nat.beq id' id=false) (hq:X (.exit id') s h):z8 id K X (.exit id') s h:=by
 change (bif Nat.beq id' id then K else X (.exit id')) s h
 rw [hi];exact hq
theorem z8.ret {id:Nat} {s:Fr} {h:Heap} (hq:X .ret s h):z8 id K X .ret s h:=hq
theorem Wc.loop {α:Type} {b:Code} {s:Fr} {h:Heap} (S:α→Fr) (H:α→Heap) (I:α→Prop) (μ:α→Nat) (a0:α) (hs0:Le (S a0) s) (hh0:h=H a0) (hI0:I a0)
  (hb:∀ a,I a→Wc P E b (S a) (H a) (fun s h=>∃ a',Le (S a') s∧h=H a'∧I a'∧μ a'<μ a) X N):Wc P E (.loop b) s h K X N:=by
 intro hF B w0 g0 g w ac fr k cs hD hg hW hG hf
 refine .steps (.one stepR_loop) ?_
 have key:∀ (n:Nat) (x:α),μ x=n→I x→∀ {g:Gh} {w:World} (ac:Act),Grown B g0 g→W B w0 g (H x) w→FrOk g fr (S x) ac→Ends P K X B w0 g0 fr k cs (lone (fr.atR ac (.code b::.inLoop b::k)) cs w):=by
  intro n
  induction n using Nat.strongRecOn with
  | _ n IH =>
   intro x hx hI g w ac hg hW hf
   refine .pass (x:=.inLoop b) (fun _=>rfl) (hb x hI hF ac fr (.inLoop b::k) cs hD hg hW hG hf) fun s1 h1 g1 a1 w1 q1 q2 q3 q4=>?_
   obtain ⟨x',hl,rfl,hI',hm⟩:=q4
   exact .steps (.one stepR_inLoop) (IH (μ x') (by omega) x' rfl hI' a1 q1 q2 (hl.ok q3))
 subst hh0
 exact key _ a0 rfl hI0 ac hg hW (hs0.ok hf)
theorem Wc.unroll {b:Code} {s:Fr} {h:Heap} (hb:Wc P E b s h (fun s h=>Wc P E (.loop b) s h K X N) X N):Wc P E (.loop b) s h K X N:=by
 intro hF B w0 g0 g w ac fr k cs hD hg hW hG hf
 refine .steps (.one stepR_loop) (.pass (x:=.inLoop b) (fun _=>rfl) (hb hF ac fr (.inLoop b::k) cs hD hg hW hG hf) fun s1 h1 g1 a1 w1 q1 q2 q3 q4=>?_)
 obtain ⟨e,s,h,g,a,w,r1,r2,r3,r4,r5⟩:=q4 hF a1 fr k cs hD q1 q2 hG q3
 refine ⟨e,s,h,g,a,w,r1,r2,r3,?_,r5⟩
 exact xu8 (stepR_loop (P:=P)) (stepR_inLoop (P:=P)) r4
theorem Wc.region {id:Nat} {ops:Array Oper} {s:Fr} {h:Heap} (ho:Wl P E ops.toList ops.toList s h K X N):Wc P E (.region id ops false) s h K X N:=by
 intro hF B w0 g0 g w ac fr k cs hD hg hW hG hf
 refine .steps (.one stepR_region) ?_
 have:=ho hF ac fr k cs ops 0 rfl (by simp) hD hg hW hG hf
 rw [Array.length_toList,← List.range_eq_range'] at this
 exact this
theorem Wl.nil {all:List Oper} {s:Fr} {h:Heap} (hq:K s h):Wl P E all [] s h K X N:=fun _ _ _ _ g w a _ _ _ _ _ _ _ _ hg hW _ hf=>⟨.normal,s,h,g,a,w,hg,hW,hf,.one stepR_region_end,hq⟩
theorem Wl.weak {all l:List Oper} {s s':Fr} {h:Heap} (hl:Le s' s) (hw:Wl P E all l s' h K X N):Wl P E all l s h K X N:=fun hF _ _ _ _ _ a b k cs ops i h1 h2 hD hg hW hG hf=>hw hF a b k cs ops i h1 h2 hD hg hW hG (hl.ok hf)
theorem z68 {ops:Array Oper} {all l:List Oper} {o:Oper} {i:Nat} (h1:ops.toList=all) (h2:all.drop i=o::l):ops[i]?=some o∧all.drop (i+1)=l:=by
 subst h1
 have:(ops.toList.drop i)[0]?=some o:=by rw [h2];rfl
 rw [List.getElem?_drop] at this
 exact ⟨by simpa using this,by rw [← List.drop_drop,h2];rfl⟩
theorem qs8 {g:Gh} {b:Frame} {fr:Fr} {a:Act} (hf:FrOk g b fr a) {o:Oper} (hd:(∃ c,o.op=.defer c)→fr.round=none):o.semAt b.roundOf a.eval=execOp a.eval o:=by
 by_cases hro:fr.round=none
 ·have hb:b.roundOf=none:=by have:=hf.round;rw [hro] at this;exact this
  rw [hb,Oper.semAt_none]
 ·exact Oper.semAt_eq _ _ _ (fun c e=>hro (hd ⟨c,e⟩))
theorem qs2 {lit:Bool} {G:Nat→Option V} {tm:T V} {h:Heap} {o:Oper} {r:Rs} (ho:q36 lit P G tm h o=r) (hr:∀ f args h,r≠.defer f args h) (hs:r≠.stuck):¬ ∃ c,o.op=.defer c:=by
 rintro ⟨c,hc⟩
 rw [za8 hc] at ho
 rcases z74 G tm h c with e | ⟨f,args,e⟩
 ·rw [e] at ho;exact hs ho.symm
 ·rw [e] at ho;exact hr _ _ _ ho.symm
theorem Wl.val {all l:List Oper} {o:Oper} {s s1:Fr} {h h1:Heap} (v:V) (hw:j9 all s o=some true) (ho:q36 (E.lit s.fn) P E.glob s.tm h o=.val v h1) (hp:s.put o.dst v=some s1) (hr:Wl P E all l s1 h1 K X N):Wl P E all (o::l) s h K X N:=by
 intro hF B w0 g0 g w a b k cs ops i e1 e2 hD hg hW hG hf
 obtain ⟨ho',hl'⟩:=z68 e1 e2
 subst e1
 have hgood:=qg9 (P:=P) (E.lit s.fn) hW hf.slots (hG.mono hg.ext.S) o
 have hsem:=qs8 hf (o:=o) (fun hd=>absurd hd (qs2 ho (by simp) (by simp)))
 rw [ho,← hsem] at hgood
 obtain ⟨u,w',g',e,hg',hW',hR⟩:=hgood
 rw [List.length_cons,List.range'_succ]
 exact .steps (.one (qa5 ho' (q35 hf hw) e)) (hr hF _ b k cs ops (i+1) rfl hl' hD (hg.trans hg') hW' hG ((hf.mono hg'.ext).put hR hp))
theorem Wl.store {all l:List Oper} {o:Oper} {s s1:Fr} {h h1:Heap} (hw:j9 all s o=some true) (ho:q36 (E.lit s.fn) P E.glob s.tm h o=.skip h1) (hp:s.put o.dst undef=some s1) (hr:Wl P E all l s1 h1 K X N):Wl P E all (o::l) s h K X N:=by
 intro hF B w0 g0 g w a b k cs ops i e1 e2 hD hg hW hG hf
 obtain ⟨ho',hl'⟩:=z68 e1 e2
 subst e1
 have hgood:=qg9 (P:=P) (E.lit s.fn) hW hf.slots (hG.mono hg.ext.S) o
 have hsem:=qs8 hf (o:=o) (fun hd=>absurd hd (qs2 ho (by simp) (by simp)))
 rw [ho,← hsem] at hgood
 obtain ⟨w',g',e,hg',hW'⟩:=hgood
 rw [List.length_cons,List.range'_succ]
 exact .steps (.one (z17 ho' (q35 hf hw) e)) (hr hF _ b k cs ops (i+1) rfl hl' hD (hg.trans hg') hW' hG ((hf.mono hg'.ext).put R.undef hp))
theorem Wl.not {all l:List Oper} {o:Oper} {s s1:Fr} {h:Heap} (hw:j9 all s o=some false) (hp:s.put o.dst undef=some s1) (hr:Wl P E all l s1 h K X N):Wl P E all (o::l) s h K X N:=by
 intro hF B w0 g0 g w a b k cs ops i e1 e2 hD hg hW hG hf
 obtain ⟨ho',hl'⟩:=z68 e1 e2
 subst e1
 have hwf:=q35 hf hw
 have hs:=stepR_op_skip (P:=P) (b:=b) (a:=a) (k:=k) (cs:=cs) (w:=w) (ops:=ops) (i:=i) (rest:=List.range' (i+1) l.length) (by simp [ho'];simpa using hwf)
 simp only [ho',Option.bind_some] at hs
 rw [List.length_cons,List.range'_succ]
 exact .steps (.one hs) (hr hF _ b k cs ops (i+1) rfl hl' hD hg hW hG (hf.put R.undef hp))
def Cx (P:Program) (E:Env) (f:FuncId) (args:List V) (h:Heap) (R':V→Heap→Prop):Prop :=
 Fine P E→∀ {B:Nat} {w0:World} {g:Gh} {w:World} (cs:List Frame) (us:Array Value),W B w0 g h w→x9 E.glob g.S→Rs' g us args→∃ v h',R' v h'∧y8 P B w0 g cs f us w (.ret v h')
def Came (P:Program) (E:Env) (f:FuncId) (args:List V) (h:Heap) (v:V) (h':Heap):Prop :=
 Fine P E→∀ {B:Nat} {w0:World} {g:Gh} {w:World} (cs:List Frame) (us:Array Value),W B w0 g h w→x9 E.glob g.S→Rs' g us args→y8 P B w0 g cs f us w (.ret v h')
theorem Wl.cameX {all l:List Oper} {o:Oper} {s:Fr} {h h1:Heap} {f:FuncId} {args:List V} (hw:j9 all s o=some true) (ho:q36 (E.lit s.fn) P E.glob s.tm h o=.call f args h1)
  (hc:Cx P E f args h1 (fun v h2=>∃ s1,s.put o.dst v=some s1∧Wl P E all l s1 h2 K X N)):Wl P E all (o::l) s h K X N:=by
 intro hF B w0 g0 g w a b k cs ops i e1 e2 hD hg hW hG hf
 obtain ⟨ho',hl'⟩:=z68 e1 e2
 subst e1
 have hgood:=qg9 (P:=P) (E.lit s.fn) hW hf.slots (hG.mono hg.ext.S) o
 have hsem:=qs8 hf (o:=o) (fun hd=>absurd hd (qs2 ho (by simp) (by simp)))
 rw [ho,← hsem] at hgood
 obtain ⟨us,w1,g1,e,hg1,hW1,hs⟩:=hgood
 rw [List.length_cons,List.range'_succ]
 obtain ⟨v,h2,⟨s1,hp,hr⟩,g',w',u,hg',hW',hR,hret⟩:=hc hF (b.atR a (.inRegion ops (i::List.range' (i+1) l.length)::k)::cs) us hW1 (hG.mono (hg.trans hg1).ext.S) hs
 have hgg:=hg1.trans hg'
 refine .steps ?_ (hr hF (a.put o.dst u) b k cs ops (i+1) rfl hl' hD (hg.trans hgg) hW' hG ((hf.mono hgg.ext).put hR hp))
 have hfin:(b.atR a (.inRegion ops (i::List.range' (i+1) l.length)::k)).finish u=b.atR (a.put o.dst u) (.inRegion ops (List.range' (i+1) l.length)::k):=by rw [Frame.finish_atR,ho'];rfl
 have hwf:=q35 hf hw
 rcases hret with hv | ⟨he,frx,s1,_,s2⟩
 ·exact .one (qa5 ho' hwf (e.trans hv))
 ·refine .head (qd6 ho' hwf (e.trans he)) (s1.trans (.one ?_))
  rw [← hfin];exact step_leave_returned s2
theorem Came.x {f:FuncId} {args:List V} {h:Heap} {v:V} {h':Heap} {R':V→Heap→Prop} (hc:Came P E f args h v h') (hR:R' v h'):Cx P E f args h R':=fun hF _ _ _ _ cs us hW hG hs=>⟨v,h',hR,hc hF cs us hW hG hs⟩
theorem Wl.came {all l:List Oper} {o:Oper} {s s1:Fr} {h h1 h2:Heap} {f:FuncId} {args:List V} {v:V} (hw:j9 all s o=some true) (ho:q36 (E.lit s.fn) P E.glob s.tm h o=.call f args h1) (hc:Came P E f args h1 v h2) (hp:s.put o.dst v=some s1) (hr:Wl P E all l s1 h2 K X N):Wl P E all (o::l) s h K X N :=
 Wl.cameX hw ho (hc.x ⟨s1,hp,hr⟩)
def Cp (P:Program) (E:Env) (f:FuncId) (gs:List V) (g:V):Prop:=Fine P E→y5 P E.glob f gs g
theorem Cp.came {f:FuncId} {args gs:List V} {h h1 h2:Heap} {g v':V} (_hs:E.shared f=false) (ha:pubL (pub [] q04) args h=some (gs,h1)) (_hn:E.prim f gs=none) (hc:Cp P E f gs g) (ht:give E f (Bool.rec h1 h (E.borrow f)) g=some (v',h2)):Came P E f args h v' h2:=by
 intro hF B w0 gh w cs us hW hG hs
 have:=y5.given hW hG cs hs ha (hc hF)
 unfold z02 at this
 rw [ht] at this
 exact this
theorem xj1 {f:FuncId} {args gs:List V} {h h1 h2:Heap} {v v':V} (_hs:E.shared f=false) (ha:pubL (pub [] q04) args h=some (gs,h1)) (hp:E.prim f gs=some v) (ht:give E f (Bool.rec h1 h (E.borrow f)) v=some (v',h2)):Came P E f args h v' h2:=by
 intro hF B w0 gh w cs us hW hG hs
 have:=y5.given hW hG cs hs ha (hF.prim f gs v hp)
 unfold z02 at this
 rw [ht] at this
 exact this
def Cs (P:Program) (E:Env) (f:FuncId) (args:List V) (h:Heap) (v:V) (h':Heap):Prop:=Came P E f args h v h'
theorem Cs.came {f:FuncId} {args:List V} {h h':Heap} {v:V} (_hs:E.shared f=true) (_hp:E.pubRet f=false) (hc:Cs P E f args h v h'):Came P E f args h v h':=hc
noncomputable def argL (args:List V):Nat→List (Nat×V):=List.rec (motive:=fun _=>Nat→List (Nat×V)) (fun _=>[]) (fun v _ ih i=>(i,v)::ih (Nat.succ i)) args
noncomputable def argS (f n:Nat) (args:List V):Fr:=(base f n).on (argL args 0)
theorem xp8 {args:List V}:∀ {i k:Nat} {v:V},(i,v)∈argL args k→k≤i∧args[i-k]?=some v:=by
 induction args with
 | nil=>intro i k v h;cases h
 | cons x args IH =>
  intro i k v h
  change (i,v)∈(k,x)::argL args (Nat.succ k) at h
  rcases List.mem_cons.1 h with h | h
  ·cases h;exact ⟨Nat.le_refl _,by simp⟩
  ·obtain ⟨h1,h2⟩:=IH h
   refine ⟨by omega,?_⟩
   obtain ⟨j,rfl⟩:∃ j,i=k+1+j:=⟨i-(k+1),by omega⟩
   rw [show k+1+j-k=j+1 by omega]
   rw [show k+1+j-Nat.succ k=j by omega] at h2
   simpa using h2
theorem xy1 (f n:Nat) (args:List V):Le (argS f n args) ⟨f,n,qi9 args 0 (full (qa0 n)),[],[],none,none,false⟩:=by
 refine ⟨rfl,rfl,rfl,rfl,rfl,rfl,rfl,fun i hi=>?_,fun i hi=>qo8 n (argL args 0) i hi⟩
 change (mkT n (argL args 0)).get undef i=lost∨(mkT n (argL args 0)).get undef i=(qi9 args 0 (full (qa0 n))).get undef i
 rcases qx0 n (argL args 0) i hi with e | ⟨v,hv,e⟩
 ·exact .inl e
 ·right
  rw [e]
  obtain ⟨_,h2⟩:=xp8 hv
  rw [Nat.sub_zero] at h2
  have hi':i<args.length:=by
   rcases Nat.lt_or_ge i args.length with h | h
   ·exact h
   ·rw [List.getElem?_eq_none h] at h2;cases h2
  rw [z71,if_pos ⟨Nat.zero_le _,by omega⟩,Nat.sub_zero,List.getD_eq_getElem?_getD,h2];rfl
noncomputable def qi0 (P:Program) (fn:Func) (s:Fr) (h:Heap):Option V:=results P fn s h
def retX (P:Program) (fn:Func) (R:V→Heap→Prop) (s:Fr) (h:Heap):Prop:=s.defers=[]∧∃ h1,q55 s.marks h=some h1∧∃ v,qi0 P fn s h1=some v∧R v h1
def z77 (P:Program) (fn:Func) (R:V→Heap→Prop):Ex→Fr→Heap→Prop
 | .ret=>retX P fn R
 | _=>fun _ _=>False
theorem Ev.body {f:FuncId} {fn:Func} {body:Code} {args:List V} {h:Heap} {R':V→Heap→Prop} (hf:P.funcs[f]?=some fn) (hb:fn.body=some body) (hl:Nat.ble (List.len args) fn.ntmps=true)
  (hw:Wc P E body (argS f fn.ntmps args) h (retX P fn R') (z77 P fn R') h.n):Cx P E f args h R':=by
 intro hF B w0 g w cs us hW hG hs
 rw [Nat.ble_eq,List.len_eq] at hl
 have hcall:=qg1 hF.names (us:=us) (w:=w) hf hb
 let b:Frame:={ (default:Frame) with fn:=f,kind:=.normal,roundOf:=none }
 let a:Act:={ tmps:=us++Array.replicate (fn.ntmps-us.size) Go.undef,defers:=[] }
 have henter:Frame.enter P f us .normal=b.atR a [.code body]:=by simp [Frame.enter,Frame.atR,hf,hb,b,a]
 have hfr:FrOk g b ⟨f,fn.ntmps,qi9 args 0 (full (qa0 fn.ntmps)),[],[],none,none,false⟩ a:=⟨rfl,qu5 hs hl,rfl,q22.nil g⟩
 obtain ⟨e,s,h',g',a',w',hg,hW',hf',hA,hq⟩:=hw hF a b [] cs hW.domain (Grown.refl _ _) hW hG ((xy1 f fn.ntmps args).ok hfr)
 rw [← henter] at hA
 have hq':(e=.ret∨e=.normal)∧retX P fn R' s h':=by
  cases e with
  | normal=>exact ⟨.inr rfl,hq⟩
  | ret=>exact ⟨.inl rfl,hq⟩
  | _=>exact absurd hq id
 obtain ⟨he,hd,h1,hm,v,hv,hR⟩:=hq'
 have hend:qi1 P (run P E 0) f fn s none h'=.ret v h1:=by
  unfold qi1
  rw [hm,hd]
  change qw5 P f fn s none h1=_
  unfold qw5
  change (match qi0 P fn s h1 with | some y=>Res.ret y h1 | .none=>_)=_
  rw [hv]
 have hst:∃ todo,Steps P (lone (Frame.enter P f us .normal) cs w) (lone { b.atR a' todo with mode:=.returning } cs w'):=by
  rcases he with rfl | rfl
  ·obtain ⟨todo,hs'⟩:=hA
   exact ⟨_,hs'.trans (.one (stepR_ret rfl))⟩
  ·exact ⟨_,Steps.trans hA (.one (stepR_end rfl))⟩
 obtain ⟨todo,hst⟩:=hst
 refine ⟨v,h1,hR,?_⟩
 rw [← hend]
 exact qn3 (zk6 hF.names hF.prim 0) hf hcall rfl rfl (FrOk.weak hf') (p:=none) (mode:=.returning) rfl hg hW' (hG.mono hg.ext.S) hst
theorem Cx.pure {f:FuncId} {gs:List V} {g:V} (hc:Cx P E f gs Heap.empty (fun v h=>q58 h v=some g)):Cp P E f gs g:=by
 intro hF S w cs us hs hG hus
 obtain ⟨v,h',hr,g',w',u,hg,hW,hR,hret⟩:=hc hF cs us (W.start hs) hG hus
 obtain ⟨S',h2,bs,hg',hW',hA,hn,hb⟩:=qq9 hW hR hr
 have hgg:=hg.trans hg'
 exact ⟨S',w',u,bs,hgg.ext.S,fun b o v hb e=>hgg.keep b o v hb e,hW'.shut,hW'.low,hA,hn,hb,hret⟩
theorem Cp.body {f:FuncId} {fn:Func} {body:Code} {gs:List V} {g:V} (hf:P.funcs[f]?=some fn) (hb:fn.body=some body) (hl:Nat.ble (List.len gs) fn.ntmps=true)
  (hw:Wc P E body (argS f fn.ntmps gs) Heap.empty (retX P fn fun v h=>q58 h v=some g) (z77 P fn fun v h=>q58 h v=some g) 0):Cp P E f gs g:=(Ev.body hf hb hl hw).pure
theorem Cs.body {f:FuncId} {fn:Func} {body:Code} {args:List V} {h h':Heap} {v:V} (hf:P.funcs[f]?=some fn) (hb:fn.body=some body) (hl:Nat.ble (List.len args) fn.ntmps=true)
  (hw:Wc P E body (argS f fn.ntmps args) h (retX P fn fun v1 h1=>v1=v∧h1=h') (z77 P fn fun v1 h1=>v1=v∧h1=h') h.n):Cs P E f args h v h':=by
 intro hF B w0 g w cs us hW hG hs
 obtain ⟨v1,h1,⟨rfl,rfl⟩,hc⟩:=Ev.body hf hb hl hw hF cs us hW hG hs
 exact hc
end Go.AM
namespace Go.AM
open Go.RowKit
variable {P:Program} {E:Env}
inductive So where
 | val (v:V) (h:Heap)
 | obl (v:V) (h:Heap) (φ:Prop)
 | skip (h:Heap)
 | no
def So.ok (r:Rs):So→Prop
 | .val v h=>r=.val v h
 | .obl v h φ=>φ→r=.val v h
 | .skip h=>r=.skip h
 | .no=>True
def inK (k:IntKind) (n:Int):Prop :=
 match k with
 | .i8=>-128≤n∧n≤127
 | .i16=>-32768≤n∧n≤32767
 | .i32=>-2147483648≤n∧n≤2147483647
 | .i64=>-9223372036854775808≤n∧n≤9223372036854775807
 | .u8=>0≤n∧n≤255
 | .u16=>0≤n∧n≤65535
 | .u32=>0≤n∧n≤4294967295
 | .u64=>0≤n∧n≤18446744073709551615
def ofRs (r:Rs):So :=
 match r with
 | .val v h=>.val v h
 | .skip h=>.skip h
 | _=>.no
def ofO (h:Heap) (o:Option V):So :=
 match o with
 | some v=>.val v h
 | none=>.no
def q8 (s:List UInt8) (i:Int):Int:=((s.getD i.toNat 0).toNat:Int)
noncomputable def intS (h:Heap) (op:BinOp) (k:IntKind) (a b:Int):So :=
 match op with
 | .add=>.obl (.int k (a+b)) h (inK k (a+b))
 | .sub=>.obl (.int k (a-b)) h (inK k (a-b))
 | .mul=>.obl (.int k (a*b)) h (inK k (a*b))
 | .quo=>.obl (.int k (a/b)) h (0≤a∧0<b∧inK k (a/b))
 | .rem=>.obl (.int k (a%b)) h (0≤a∧0<b)
 | .eql=>.val (.bool (decide (a=b))) h
 | .neq=>.val (.bool (!decide (a=b))) h
 | .lss=>.val (.bool (decide (a<b))) h
 | .leq=>.val (.bool (decide (a≤b))) h
 | .gtr=>.val (.bool (decide (b<a))) h
 | .geq=>.val (.bool (decide (b≤a))) h
 | op=>ofO h (q41 op k a b)
noncomputable def strS (h:Heap) (op:BinOp) (a b:List UInt8):So :=
 match op with
 | .add=>.obl (.str (a++b)) h (a.length+b.length≤1099511627776)
 | .eql=>.val (.bool (decide (a=b))) h
 | .neq=>.val (.bool (!decide (a=b))) h
 | op=>ofO h (qn6 op a b)
noncomputable def binS (P:Program) (h:Heap) (t:TypeId) (c:Bool) (op:BinOp) (x y:V):So :=
 match x with
 | .int k a=>match y with
  | .int k' b=>bif qh4 op then ofO h (q41 op k a b) else bif q54 k k' then intS h op k a b else .no
  | _=>.no
 | .str a=>match y with
  | .str b=>strS h op a b
  | _=>.no
 | x=>ofO h (binOp P h t c op x y)
noncomputable def unS (h:Heap) (op:UnOp) (x:V):So :=
 match x with
 | .int k n=>match op with
  | .neg=>.obl (.int k (-n)) h (inK k (-n))
  | op=>ofO h (unOp op (.int k n))
 | x=>ofO h (unOp op x)
noncomputable def xp4 (P:Program) (h:Heap) (t:TypeId) (x i:V):So :=
 match x with
 | .str s=>match i with
  | .int _ j=>bif q17 P t then .obl (.int .u8 (q8 s j)) h (0≤j∧j<s.length) else .no
  | _=>.no
 | x=>ofO h (index P t x i)
noncomputable def qg2 (P:Program) (h:Heap) (t:TypeId) (x i:V):So :=
 match x with
 | .sl r ver o n _=>match i with
  | .int _ j=>match j3 P t with
   | some e=>bif Nat.ble 1 (size P e)&&Nat.beq (rowSz h r) (size P e) then .obl (.ptr r ver ((o+j.toNat)*size P e)) h (0≤j∧j<n) else .no
   | none=>.no
  | _=>.no
 | .gsl sz es _=>match i with
  | .int _ j=>match j3 P t with
   | some e=>bif Nat.beq sz (size P e) then .obl (.gptr sz es (j.toNat*sz)) h (0≤j∧j<es.length) else .no
   | none=>.no
  | _=>.no
 | .osl sz es=>match i with
  | .int _ j=>match j3 P t with
   | some e=>bif Nat.beq sz (size P e) then .obl (.gptr sz es (j.toNat*sz)) h (0≤j∧j<es.length) else .no
   | none=>.no
  | _=>.no
 | x=>ofO h (indexAddr P h t x i)
def ql2:Option V→Option (Option Int)
 | none=>some none
 | some (.int _ n)=>some (some n)
 | _=>none
noncomputable def xu2 (h:Heap) (s:List UInt8) (lo hi:Option Int):So :=
 match lo with
 | none=>match hi with
  | none=>.val (.str s) h
  | some b=>.obl (.str (s.take b.toNat)) h (0≤b∧b≤s.length)
 | some a=>match hi with
  | none=>.obl (.str (s.drop a.toNat)) h (0≤a∧a≤s.length)
  | some b=>.obl (.str ((s.take b.toNat).drop a.toNat)) h (0≤a∧a≤b∧b≤s.length)
def subC (c:Option Nat) (k:Nat):Option Nat :=
 match c with
 | some c=>some (c-k)
 | none=>none
noncomputable def xv3 (h:Heap) (sz:Nat) (es:List V) (c:Option Nat) (lo hi:Option Int):So :=
 match lo with
 | none=>match hi with
  | none=>.val (.gsl sz es c) h
  | some b=>.obl (.gsl sz (es.take b.toNat) c) h (0≤b∧b≤es.length)
 | some a=>match hi with
  | none=>.obl (.gsl sz (es.drop a.toNat) (subC c a.toNat)) h (0≤a∧a≤es.length)
  | some b=>.obl (.gsl sz ((es.take b.toNat).drop a.toNat) (subC c a.toNat)) h (0≤a∧a≤b∧b≤es.length)
noncomputable def xq9 (h:Heap) (r ver o n:Nat) (c:Option Nat) (lo hi:Option Int):So :=
 match lo with
 | none=>match hi with
  | none=>.val (.sl r ver o n c) h
  | some b=>.obl (.sl r ver o b.toNat c) h (0≤b∧b≤n)
 | some a=>match hi with
  | none=>.obl (.sl r ver (o+a.toNat) (n-a.toNat) (subC c a.toNat)) h (0≤a∧a≤n)
  | some b=>.obl (.sl r ver (o+a.toNat) (b.toNat-a.toNat) (subC c a.toNat)) h (0≤a∧a≤b∧b≤n)
noncomputable def zf5 (P:Program) (h:Heap) (t:TypeId) (x:V) (lo hi mx:Option V):So :=
 match mx with
 | some _=>ofO h (slice P h t x lo hi mx)
 | none=>match ql2 lo with
  | none=>.no
  | some lo'=>match ql2 hi with
   | none=>.no
   | some hi'=>match x with
    | .str s=>bif q17 P t then xu2 h s lo' hi' else .no
    | .gsl sz es c=>match j3 P t with
     | some el=>bif Nat.beq (size P el) sz then xv3 h sz es c lo' hi' else .no
     | none=>.no
    | .sl r ver o n c=>match j3 P t with
     | some el=>bif Nat.ble 1 (size P el)&&Nat.beq (rowSz h r) (size P el) then xq9 h r ver o n c lo' hi' else .no
     | none=>.no
    | x=>ofO h (slice P h t x lo hi none)
noncomputable def xa0 (P:Program) (h:Heap) (s d:TypeId) (x:V):So :=
 match x with
 | .int _ n=>match P.underlying s with
  | none=>.no
  | some _=>match P.underlying d with
   | some (.int k)=>.obl (.int k n) h (inK k n)
   | _=>ofO h (convert P s d h x)
 | x=>ofO h (convert P s d h x)
noncomputable def lenS (P:Program) (t:TypeId) (h:Heap) (x:V):So :=
 match x with
 | .str s=>bif q17 P t then .val (.int .i64 (s.length:Int)) h else .no
 | .gsl _ es _=>bif y6 P t then .val (.int .i64 (es.length:Int)) h else .no
 | .osl _ es=>bif y6 P t then .val (.int .i64 (es.length:Int)) h else .no
 | .sl _ _ _ n _=>bif y6 P t then .val (.int .i64 (n:Int)) h else .no
 | x=>ofRs (builtin P .len [t] h [x])
noncomputable def maxS (h:Heap) (x y:V) (d:Rs):So :=
 match x with
 | .int k a=>match y with
  | .int _ b=>.val (.int k (max a b)) h
  | _=>ofRs d
 | _=>ofRs d
noncomputable def minS (h:Heap) (x y:V) (d:Rs):So :=
 match x with
 | .int k a=>match y with
  | .int _ b=>.val (.int k (min a b)) h
  | _=>ofRs d
 | _=>ofRs d
noncomputable def newS (_P:Program) (h:Heap) (sz:Nat) (y:V):Option (List V) :=
 match y with
 | .gsl sz' es _=>bif Nat.beq sz sz' then some es else none
 | .osl sz' es=>bif Nat.beq sz sz' then some es else none
 | y=>q81 h sz y
noncomputable def qr4 (P:Program) (t:TypeId) (h:Heap) (x y:V) (d:Rs):So :=
 match j3 P t with
 | none=>.no
 | some e=>match newS P h (size P e) y with
  | none=>.no
  | some new=>bif Nat.beq (size P e) 0||!(qa2 P e) then .no else
   match x with
   | .sl r ver o n c=>match c with
    | some _=>ofRs d
    | none=>match h.get r with
     | .row ver' ty sz' pub cap es=>match cap with
      | some _=>ofRs d
      | none=>bif Nat.beq (size P e) sz'&&Nat.beq o 0&&Nat.beq ty e then
        .obl (.sl r (Nat.succ ver) 0 (n+new.length) none) (h.set r (.row (Nat.succ ver) ty sz' pub none (es++new)))
         (ver=ver'∧new≠[]∧n=es.length∧pub≤n∧n+new.length≤1099511627776∧(n+new.length)*P.bytesOf e≤1099511627776)
       else .no
     | _=>.no
   | .nils=>.obl (.sl h.n 0 0 new.length none) (newRow h e (size P e) 0 none new) (new≠[]∧new.length≤1099511627776∧new.length*P.bytesOf e≤1099511627776)
   | .gsl sz' es c=>match c with
    | some c=>bif Nat.beq (size P e) sz' then .obl (.sl h.n 0 0 (es.length+new.length) none) (newRow h e sz' 0 none (es++new)) (new≠[]∧c<es.length+new.length∧es.length+new.length≤1099511627776∧(es.length+new.length)*P.bytesOf e≤1099511627776) else .no
    | none=>.no
   | _=>.no
noncomputable def zk3 (P:Program) (t:TypeId) (h:Heap) (x y:V) (d:Rs):So :=
 match y with
 | .nils=>ofRs d
 | y=>qr4 P t h x y d
noncomputable def ze0 (P:Program) (b:Builtin) (ts:List TypeId) (h:Heap) (args:List V):So :=
 match b with
 | .len=>match ts with
  | [t]=>(match args with
   | [x]=>lenS P t h x
   | _=>.no)
  | _=>.no
 | .max=>match ts with
  | _::_=>(match args with
   | [x,y]=>maxS h x y (builtin P .max ts h [x,y])
   | args=>ofRs (builtin P .max ts h args))
  | _=>.no
 | .min=>match ts with
  | _::_=>(match args with
   | [x,y]=>minS h x y (builtin P .min ts h [x,y])
   | args=>ofRs (builtin P .min ts h args))
  | _=>.no
 | .append=>match ts with
  | [t,u]=>(match args with
   | [x,y]=>bif q24 P u then zk3 P t h x y (builtin P .append ts h [x,y]) else .no
   | _=>.no)
  | _=>.no
 | .recover=>.no
 | b=>ofRs (builtin P b ts h args)
noncomputable def zr3 (h:Heap) (c:Bool) (a b:V):So :=
 match a with
 | .int k x=>match b with
  | .int k' y=>bif q54 k k' then .val (.int k (bif c then x else y)) h else ofO h (Bool.rec (some b) (some a) c)
  | b=>ofO h (Bool.rec (some b) (some a) c)
 | .bool x=>match b with
  | .bool y=>.val (.bool (bif c then x else y)) h
  | b=>ofO h (Bool.rec (some b) (some a) c)
 | .str x=>match b with
  | .str y=>.val (.str (bif c then x else y)) h
  | b=>ofO h (Bool.rec (some b) (some a) c)
 | a=>ofO h (Bool.rec (some b) (some a) c)
noncomputable def s1 (G:Nat→Option V) (tm:T V) (x:Operand) (f:V→So):So :=
 match ev G tm x with
 | some v=>f v
 | none=>.no
noncomputable def s2 (G:Nat→Option V) (tm:T V) (x y:Operand) (f:V→V→So):So :=
 match ev G tm x with
 | some v=>(match ev G tm y with
  | some w=>f v w
  | none=>.no)
 | none=>.no
noncomputable def zr5 (E:Env) (f:FuncId) (args:List V) (h:Heap):Option (V×Heap) :=
 bif E.shared f then none else
 match pubL (pub [] q04) args h with
 | none=>none
 | some (gs,h1)=>match E.prim f gs with
  | some v=>give E f (Bool.rec h1 h (E.borrow f)) v
  | none=>none
noncomputable def z97 (lit:Bool) (P:Program) (G:Nat→Option V) (tm:T V) (h:Heap) (o:Oper):So :=
 match o.op with
 | .binOp op t x y _=>s2 G tm x y (binS P h t (q03 x||q03 y) op)
 | .unOp op _ x=>s1 G tm x (unS h op)
 | .index t x i=>s2 G tm x i (xp4 P h t)
 | .indexAddr t x i=>s2 G tm x i (qg2 P h t)
 | .convert s d x=>s1 G tm x (xa0 P h s d)
 | .pick c a b=>match ev G tm c with
  | some (.bool t)=>s2 G tm a b (zr3 h t)
  | _=>.no
 | .slice t x lo hi mx=>s1 G tm x fun x=>match evO G tm lo with
  | none=>.no
  | some lo=>match evO G tm hi with
   | none=>.no
   | some hi=>match evO G tm mx with
    | none=>.no
    | some mx=>zf5 P h t x lo hi mx
 | .call c=>match c.callee with
  | .builtin b=>match mapO (ev G tm) c.args.toList with
   | none=>.no
   | some args=>ze0 P b c.argTypes.toList h args
  | _=>ofRs (q36 lit P G tm h o)
 | _=>ofRs (q36 lit P G tm h o)
theorem q64 (r:Rs):So.ok r (ofRs r):=by cases r <;> first | rfl | trivial
theorem q53 (h:Heap) (o:Option V):So.ok (j8 h o) (ofO h o):=by cases o <;> first | rfl | trivial
theorem qi3 {k:IntKind} {n:Int} (h:inK k n):qa6 k n=some (.int k n):=by
 rw [qb8,qm1]
 ·cases k <;> exact h.1
 ·cases k <;> exact h.2
theorem x75 {b:Int} (h:0<b):ieq b 0=false:=by
 rw [qr0,beq_eq_false_iff_ne];omega
theorem xy9 (h:Heap) (op:BinOp) (k:IntKind) (a b:Int):So.ok (j8 h (q41 op k a b)) (intS h op k a b):=by
 cases op with
 | add=>intro hk;change j8 h (qa6 k (a+b))=_;rw [qi3 hk];rfl
 | sub=>intro hk;change j8 h (qa6 k (a-b))=_;rw [qi3 hk];rfl
 | mul=>intro hk;change j8 h (qa6 k (a*b))=_;rw [qi3 hk];rfl
 | quo =>
  rintro ⟨h1,h2,h3⟩
  change j8 h (Bool.rec (qa6 k (a.tdiv b)) none (ieq b 0))=_
  rw [x75 h2,Int.tdiv_eq_ediv_of_nonneg h1,qi3 h3];rfl
 | rem =>
  rintro ⟨h1,h2⟩
  change j8 h (Bool.rec (ql1 k (a.tmod b)) none (ieq b 0))=_
  rw [x75 h2,Int.tmod_eq_emod_of_nonneg h1,q52];rfl
 | eql=>change j8 h (q41 .eql k a b)=_;rw [xn7];rfl
 | neq=>change j8 h (q41 .neq k a b)=_;rw [xm2];rfl
 | lss=>change j8 h (q41 .lss k a b)=_;rw [xl1];rfl
 | leq=>change j8 h (q41 .leq k a b)=_;rw [xg9];rfl
 | gtr=>change j8 h (q41 .gtr k a b)=_;rw [xg4];rfl
 | geq=>change j8 h (q41 .geq k a b)=_;rw [xj5];rfl
 | _=>exact q53 h _
theorem xx3 (h:Heap) (op:BinOp) (a b:List UInt8):So.ok (j8 h (qn6 op a b)) (strS h op a b):=by
 cases op with
 | add=>intro hk;rw [xm3 (a:=a) (b:=b) hk];rfl
 | eql=>change j8 h (qn6 .eql a b)=_;rw [xh7];rfl
 | neq=>change j8 h (qn6 .neq a b)=_;rw [xj4];rfl
 | _=>exact q53 h _
theorem j12 (h:Heap) (t:TypeId) (c:Bool) (op:BinOp) (x y:V):So.ok (j8 h (binOp P h t c op x y)) (binS P h t c op x y):=by
 cases x with
 | int k a =>
  cases y with
  | int k' b =>
   change So.ok (j8 h (bif qh4 op||q54 k k' then q41 op k a b else none)) (bif qh4 op then ofO h (q41 op k a b) else bif q54 k k' then intS h op k a b else .no)
   cases h1:qh4 op with
   | true=>exact q53 h _
   | false =>
    cases h2:q54 k k' with
    | true=>exact xy9 h op k a b
    | false=>trivial
  | _=>trivial
 | str a =>
  cases y with
  | str b=>exact xx3 h op a b
  | _=>trivial
 | _=>exact q53 h _
theorem j50 (h:Heap) (op:UnOp) (x:V):So.ok (j8 h (unOp op x)) (unS h op x):=by
 cases x with
 | int k n =>
  cases op with
  | neg =>
   intro hk
   change j8 h (qa6 k (0-n))=_
   rw [Int.zero_sub,qi3 hk];rfl
  | _=>exact q53 h _
 | _=>exact q53 h _
theorem z86 {k:IntKind} {j:Int} (h:0≤j):natI (.int k j)=some j.toNat:=by
 cases j with
 | ofNat n=>rfl
 | negSucc n=>exact absurd h (by omega)
theorem j01 {s:List UInt8} {i:Nat} (h:i<s.length):s[i]?=some (s.getD i 0):=by
 rw [List.getElem?_eq_getElem h,List.getD_eq_getElem?_getD,List.getElem?_eq_getElem h];rfl
theorem xh8 (h:Heap) (t:TypeId) (x i:V):So.ok (j8 h (index P t x i)) (xp4 P h t x i):=by
 cases x with
 | str s =>
  cases i with
  | int k j =>
   change So.ok _ (bif q17 P t then .obl (.int .u8 (q8 s j)) h (0≤j∧j<s.length) else .no)
   cases ht:q17 P t with
   | false=>trivial
   | true =>
    rintro ⟨h1,h2⟩
    have hi:j.toNat<s.length:=by omega
    have e:index P t (.str s) (.int k j)=some (z10 (s.getD j.toNat 0)):=by
     unfold index
     rw [z86 h1]
     change (match List.at s j.toNat with | some b=>bif q17 P t then some (z10 b) else none | none=>none)=_
     rw [List.at_eq,j01 hi,ht];rfl
    rw [e];rfl
  | _=>trivial
 | _=>exact q53 h _
theorem zq8 (h:Heap) (t:TypeId) (x i:V):So.ok (j8 h (indexAddr P h t x i)) (qg2 P h t x i):=by
 cases x with
 | sl r ver o n c =>
  cases i with
  | int k j =>
   unfold qg2
   simp only
   cases hs:j3 P t with
   | none=>trivial
   | some e =>
    simp only
    cases hb:(Nat.ble 1 (size P e)&&Nat.beq (rowSz h r) (size P e)) with
    | false=>trivial
    | true =>
     rintro ⟨h1,h2⟩
     have e1:Nat.blt j.toNat n=true:=by rw [Nat.blt_eq];omega
     simp only [Bool.and_eq_true] at hb
     have e:indexAddr P h t (.sl r ver o n c) (.int k j)=some (.ptr r ver ((o+j.toNat)*size P e)):=by
      unfold indexAddr
      rw [z86 h1]
      simp only [hs,e1,hb.1,hb.2,Bool.and_self,cond_true]
      rfl
     rw [e];rfl
  | _=>trivial
 | gsl sz es c =>
  cases i with
  | int k j =>
   unfold qg2
   simp only
   cases hs:j3 P t with
   | none=>trivial
   | some e =>
    simp only
    cases hb:Nat.beq sz (size P e) with
    | false=>trivial
    | true =>
     rintro ⟨h1,h2⟩
     have e1:Nat.blt j.toNat (List.len es)=true:=by rw [Nat.blt_eq,List.len_eq];omega
     have e:indexAddr P h t (.gsl sz es c) (.int k j)=some (.gptr sz es (j.toNat*sz)):=by
      unfold indexAddr
      rw [z86 h1]
      simp only [hs,e1,hb,Bool.and_self,cond_true]
      rfl
     rw [e];rfl
  | _=>trivial
 | osl sz es =>
  cases i with
  | int k j =>
   unfold qg2
   simp only
   cases hs:j3 P t with
   | none=>trivial
   | some e =>
    simp only
    cases hb:Nat.beq sz (size P e) with
    | false=>trivial
    | true =>
     rintro ⟨h1,h2⟩
     have e1:Nat.blt j.toNat (List.len es)=true:=by rw [Nat.blt_eq,List.len_eq];omega
     have e:indexAddr P h t (.osl sz es) (.int k j)=some (.gptr sz es (j.toNat*sz)):=by
      unfold indexAddr
      rw [z86 h1]
      simp only [hs,e1,hb,Bool.and_self,cond_true]
      rfl
     rw [e];rfl
  | _=>trivial
 | _=>exact q53 h _
theorem q18 {d:Nat} {k:IntKind} {j:Int} (h:0≤j):q16 d (some (.int k j))=some j.toNat:=by
 cases j with
 | ofNat n=>rfl
 | negSucc n=>exact absurd h (by omega)
theorem q48 {o:Option V} {a:Int} (h:ql2 o=some (some a)):∃ k,o=some (.int k a):=by
 unfold ql2 at h
 split at h
 ·cases h
 ·cases h;exact ⟨_,rfl⟩
 ·cases h
theorem q47 {o:Option V} (h:ql2 o=some none):o=none:=by
 unfold ql2 at h
 split at h
 ·rfl
 ·cases h
 ·cases h
theorem qt2 {h:Heap} {t:TypeId} {s:List UInt8} {lo hi:Option V} {l e:Nat} (h1:q16 0 lo=some l) (h2:q16 s.length hi=some e) (ht:q17 P t=true) (hle:l≤e) (hel:e≤s.length):slice P h t (.str s) lo hi none=some (.str ((s.take e).drop l)):=by
 unfold slice
 rw [h1]
 simp only [List.len_eq,h2,ht,List.takeN_eq,List.dropN_eq,Bool.true_and]
 have e1:Nat.ble l e=true:=by rw [Nat.ble_eq];exact hle
 have e2:Nat.ble e s.length=true:=by rw [Nat.ble_eq];exact hel
 rw [e1,e2];rfl
theorem qt0 {h:Heap} {t el:TypeId} {sz:Nat} {es:List V} {c:Option Nat} {lo hi:Option V} {l e:Nat} (h1:q16 0 lo=some l) (h2:q16 es.length hi=some e) (ht:j3 P t=some el) (hz:Nat.beq (size P el) sz=true) (hle:l≤e) (hel:e≤es.length):slice P h t (.gsl sz es c) lo hi none=some (.gsl sz ((es.take e).drop l) (subO c l)):=by
 unfold slice
 rw [h1]
 simp only [List.len_eq,h2,ht,hz,cond_true]
 unfold x01
 simp only [List.len_eq,List.takeN_eq,List.dropN_eq]
 have e1:Nat.ble l e=true:=by rw [Nat.ble_eq];exact hle
 have e2:Nat.ble e es.length=true:=by rw [Nat.ble_eq];exact hel
 rw [e1,e2];rfl
theorem qs1 {h:Heap} {t el:TypeId} {r ver o n:Nat} {c:Option Nat} {lo hi:Option V} {l e:Nat} (h1:q16 0 lo=some l) (h2:q16 n hi=some e) (ht:j3 P t=some el) (hz:(Nat.ble 1 (size P el)&&Nat.beq (rowSz h r) (size P el))=true) (hle:l≤e) (hel:e≤n):slice P h t (.sl r ver o n c) lo hi none=some (.sl r ver (o+l) (e-l) (subO c l)):=by
 unfold slice
 rw [h1]
 simp only [h2,ht,hz,cond_true]
 unfold zl2
 have e1:Nat.ble l e=true:=by rw [Nat.ble_eq];exact hle
 have e2:Nat.ble e n=true:=by rw [Nat.ble_eq];exact hel
 simp only [e1,e2]
 rfl
theorem qu0 (c:Option Nat):subO c 0=c:=by cases c <;> rfl
theorem z79 (c:Option Nat) (k:Nat):subO c k=subC c k:=by cases c <;> rfl
theorem xm5 (h:Heap) (t:TypeId) (x:V) (lo hi mx:Option V):So.ok (j8 h (slice P h t x lo hi mx)) (zf5 P h t x lo hi mx):=by
 cases mx with
 | some m=>exact q53 h _
 | none =>
  unfold zf5
  simp only
  cases hlo:ql2 lo with
  | none=>trivial
  | some lo' =>
   simp only
   cases hhi:ql2 hi with
   | none=>trivial
   | some hi' =>
    simp only
    cases x with
    | str s =>
     simp only
     cases ht:q17 P t with
     | false=>trivial
     | true =>
      simp only [cond_true]
      cases lo' with
      | none =>
       have b1:=q47 hlo;subst b1
       cases hi' with
       | none =>
        have b2:=q47 hhi;subst b2
        change j8 h _=_
        rw [qt2 (l:=0) (e:=s.length) rfl rfl ht (Nat.zero_le _) (Nat.le_refl _),List.take_length];rfl
       | some b =>
        obtain ⟨k,rfl⟩:=q48 hhi
        rintro ⟨h1,h2⟩
        rw [qt2 (l:=0) (e:=b.toNat) rfl (q18 h1) ht (Nat.zero_le _) (by omega)];rfl
      | some a =>
       obtain ⟨k,rfl⟩:=q48 hlo
       cases hi' with
       | none =>
        have b2:=q47 hhi;subst b2
        rintro ⟨h1,h2⟩
        rw [qt2 (l:=a.toNat) (e:=s.length) (q18 h1) rfl ht (by omega) (Nat.le_refl _),List.take_length];rfl
       | some b =>
        obtain ⟨k2,rfl⟩:=q48 hhi
        rintro ⟨h1,h2,h3⟩
        rw [qt2 (l:=a.toNat) (e:=b.toNat) (q18 h1) (q18 (by omega)) ht (by omega) (by omega)];rfl
    | gsl sz es c =>
     simp only
     cases ht:j3 P t with
     | none=>trivial
     | some el =>
      simp only
      cases hz:Nat.beq (size P el) sz with
      | false=>trivial
      | true =>
       simp only [cond_true]
       cases lo' with
       | none =>
        have b1:=q47 hlo;subst b1
        cases hi' with
        | none =>
         have b2:=q47 hhi;subst b2
         change j8 h _=_
         rw [qt0 (l:=0) (e:=es.length) rfl rfl ht hz (Nat.zero_le _) (Nat.le_refl _),List.take_length,qu0];rfl
        | some b =>
         obtain ⟨k,rfl⟩:=q48 hhi
         rintro ⟨h1,h2⟩
         rw [qt0 (l:=0) (e:=b.toNat) rfl (q18 h1) ht hz (Nat.zero_le _) (by omega),qu0];rfl
       | some a =>
        obtain ⟨k,rfl⟩:=q48 hlo
        cases hi' with
        | none =>
         have b2:=q47 hhi;subst b2
         rintro ⟨h1,h2⟩
         rw [qt0 (l:=a.toNat) (e:=es.length) (q18 h1) rfl ht hz (by omega) (Nat.le_refl _),List.take_length,z79];rfl
        | some b =>
         obtain ⟨k2,rfl⟩:=q48 hhi
         rintro ⟨h1,h2,h3⟩
         rw [qt0 (l:=a.toNat) (e:=b.toNat) (q18 h1) (q18 (by omega)) ht hz (by omega) (by omega),z79];rfl
    | sl r ver o n c =>
     simp only
     cases ht:j3 P t with
     | none=>trivial
     | some el =>
      simp only
      cases hz:(Nat.ble 1 (size P el)&&Nat.beq (rowSz h r) (size P el)) with
      | false=>trivial
      | true =>
       simp only [cond_true]
       cases lo' with
       | none =>
        have b1:=q47 hlo;subst b1
        cases hi' with
        | none =>
         have b2:=q47 hhi;subst b2
         change j8 h _=_
         rw [qs1 (l:=0) (e:=n) rfl rfl ht hz (Nat.zero_le _) (Nat.le_refl _),qu0];rfl
        | some b =>
         obtain ⟨k,rfl⟩:=q48 hhi
         rintro ⟨h1,h2⟩
         rw [qs1 (l:=0) (e:=b.toNat) rfl (q18 h1) ht hz (Nat.zero_le _) (by omega),qu0];rfl
       | some a =>
        obtain ⟨k,rfl⟩:=q48 hlo
        cases hi' with
        | none =>
         have b2:=q47 hhi;subst b2
         rintro ⟨h1,h2⟩
         rw [qs1 (l:=a.toNat) (e:=n) (q18 h1) rfl ht hz (by omega) (Nat.le_refl _),z79];rfl
        | some b =>
         obtain ⟨k2,rfl⟩:=q48 hhi
         rintro ⟨h1,h2,h3⟩
         rw [qs1 (l:=a.toNat) (e:=b.toNat) (q18 h1) (q18 (by omega)) ht hz (by omega) (by omega),z79];rfl
    | _=>exact q53 h _
theorem xr1 (h:Heap) (s d:TypeId) (x:V):So.ok (j8 h (convert P s d h x)) (xa0 P h s d x):=by
 cases x with
 | int k n =>
  unfold xa0
  simp only
  cases hs:P.underlying s with
  | none=>trivial
  | some us =>
   simp only
   split
   ·rename_i k' hd
    intro hk
    have e:convert P s d h (.int k n)=some (.int k' n):=by
     unfold convert
     rw [hs,hd]
     change some (V.int k' (z95 k' n))=_
     rw [zc6]
     have:=qi3 hk
     rw [qb8] at this
     exact this
    rw [e];rfl
   ·exact q53 h _
 | _=>exact q53 h _
theorem j13 (t:TypeId) (h:Heap) (x:V):So.ok (builtin P .len [t] h [x]) (lenS P t h x):=by
 cases x with
 | str s =>
  unfold lenS
  simp only
  cases ht:q17 P t with
  | false=>trivial
  | true=>exact xy3 ht
 | gsl sz es c =>
  unfold lenS
  simp only
  cases ht:y6 P t with
  | false=>trivial
  | true=>exact xx8 ht
 | osl sz es =>
  unfold lenS
  simp only
  cases ht:y6 P t with
  | false=>trivial
  | true=>exact xz4 ht
 | sl r ver o n c =>
  unfold lenS
  simp only
  cases ht:y6 P t with
  | false=>trivial
  | true=>exact j67 ht
 | _=>exact q64 _
theorem xx9 (a b:Int):(bif ilt a b then b else a)=max a b:=by
 rw [qx4]
 by_cases h:a<b
 ·rw [decide_eq_true h];show b=_;omega
 ·rw [decide_eq_false h];show a=_;omega
theorem j30 (a b:Int):(bif ilt b a then b else a)=min a b:=by
 rw [qx4]
 by_cases h:b<a
 ·rw [decide_eq_true h];show b=_;omega
 ·rw [decide_eq_false h];show a=_;omega
theorem j08 {t:TypeId} {ts:List TypeId} (h:Heap) (x y:V):So.ok (builtin P .max (t::ts) h [x,y]) (maxS h x y (builtin P .max (t::ts) h [x,y])):=by
 unfold maxS
 split
 ·split
  ·change j8 h (some (V.int _ (bif ilt _ _ then _ else _)))=_
   rw [xx9];rfl
  ·exact q64 _
 ·exact q64 _
theorem xy5 {t:TypeId} {ts:List TypeId} (h:Heap) (x y:V):So.ok (builtin P .min (t::ts) h [x,y]) (minS h x y (builtin P .min (t::ts) h [x,y])):=by
 unfold minS
 split
 ·split
  ·change j8 h (some (V.int _ (bif ilt _ _ then _ else _)))=_
   rw [j30];rfl
  ·exact q64 _
 ·exact q64 _
theorem z24 {α:Type} {l:List α} (h:l≠[]):q20 l=false:=by cases l <;> first | rfl | exact absurd rfl h
theorem xx1 {h:Heap} {sz:Nat} {y:V} {new:List V} (hn:newS P h sz y=some new):q81 h sz y=some new:=by
 unfold newS at hn
 split at hn
 ·rename_i sz' es c
  change (bif Nat.beq sz sz' then some es else none)=some new
  exact hn
 ·rename_i sz' es
  change (bif Nat.beq sz sz' then some es else none)=some new
  exact hn
 ·exact hn
theorem z20 {h:Heap} {e sz n:Nat} {es:List V} (hz:qa2 P e=true) (h1:n≤1099511627776) (h2:n*P.bytesOf e≤1099511627776):q72 P h e sz n es=.val (.sl h.n 0 0 n none) (newRow h e sz 0 none es):=by
 unfold q72
 have e1:Nat.ble n room=true:=by rw [Nat.ble_eq];exact h1
 have e2:Nat.ble (Nat.mul n (P.bytesOf e)) room=true:=by rw [Nat.ble_eq];exact h2
 rw [hz,e1,e2];rfl
theorem qr8 {t e:TypeId} {h:Heap} {x y:V} {new:List V} (ht:j3 P t=some e) (hn:q81 h (size P e) y=some new) (hz0:Nat.beq (size P e) 0=false):append P t h x y=(bif q20 new then (match x with
      | .nils=>.val x h
      | .sl _ _ _ _ _=>.val x h
      | .gsl _ _ _=>.val x h
      | _=>.stuck)
     else match x with
     | .nils=>q72 P h e (size P e) (List.len new) new
     | .gsl sz' es c=>match c with
      | some c=>bif Nat.beq (size P e) sz'&&Nat.blt c (Nat.add (List.len es) (List.len new)) then q72 P h e sz' (Nat.add (List.len es) (List.len new)) (List.app es new) else .stuck
      | none=>.stuck
     | .sl r ver o n c=>qr6 P h e (size P e) r ver o n c new (List.len new)
     | _=>.stuck):=by
 unfold append
 rw [ht]
 simp only [hn,hz0,cond_false]
 rfl
theorem qv3 {t u:TypeId} (h:Heap) (x y:V) (hu:q24 P u=true):So.ok (builtin P .append [t,u] h [x,y]) (qr4 P t h x y (builtin P .append [t,u] h [x,y])):=by
 have e0:builtin P .append [t,u] h [x,y]=append P t h x y:=by
  change (bif q24 P u then append P t h x y else .stuck)=_
  rw [hu];rfl
 unfold qr4
 cases ht:j3 P t with
 | none=>trivial
 | some e =>
  simp only
  cases hn:newS P h (size P e) y with
  | none=>trivial
  | some new =>
   have hn:=xx1 hn
   simp only
   cases hb:(Nat.beq (size P e) 0||!(qa2 P e)) with
   | true=>trivial
   | false =>
    simp only [Bool.or_eq_false_iff,Bool.not_eq_false'] at hb
    obtain ⟨hz0,hz⟩:=hb
    simp only [cond_false]
    have ea:=qr8 (P:=P) (t:=t) (h:=h) (x:=x) ht hn hz0
    cases x with
    | sl r ver o n c =>
     simp only
     cases c with
     | some c=>exact q64 _
     | none =>
      simp only
      cases hr:h.get r with
      | row ver' ty sz' pub cap es =>
       simp only
       cases cap with
       | some k=>exact q64 _
       | none =>
        simp only
        cases hc:(Nat.beq (size P e) sz'&&Nat.beq o 0&&Nat.beq ty e) with
        | false=>trivial
        | true =>
         rintro ⟨c1,h1,h2,h3,h4,h5⟩
         rw [e0,ea,z24 h1]
         simp only [cond_false]
         unfold qr6
         rw [hr]
         simp only [Bool.and_eq_true,Nat.beq_eq] at hc
         obtain ⟨⟨c2,c3⟩,c4⟩:=hc
         subst c1 c3 c4
         have b1:Nat.ble (Nat.add 0 n) (List.len es)=true:=by rw [Nat.ble_eq,List.len_eq];show 0+n≤_;omega
         have b2:Nat.ble (Nat.add n (List.len new)) room=true:=by rw [Nat.ble_eq,List.len_eq];exact h4
         have b3:Nat.ble (Nat.mul (Nat.add n (List.len new)) (P.bytesOf ty)) room=true:=by rw [Nat.ble_eq,List.len_eq];exact h5
         have b4:Nat.ble pub n=true:=by rw [Nat.ble_eq];exact h3
         have b5:Nat.beq (size P ty) sz'=true:=by rw [Nat.beq_eq];exact c2
         have c2':size P ty=sz':=c2
         subst c2'
         simp only [Nat.beq_refl,b1,b2,b3,b4,hz,Bool.and_self,cond_true,List.app_eq,List.takeN_eq]
         rw [List.take_of_length_le (by omega),List.len_eq]
         rfl
      | _=>trivial
    | nils =>
     rintro ⟨h1,h2,h3⟩
     rw [e0,ea,z24 h1]
     simp only [cond_false]
     rw [List.len_eq]
     exact z20 hz h2 h3
    | gsl sz' es c =>
     simp only
     cases c with
     | none=>trivial
     | some c =>
      simp only
      cases hs:Nat.beq (size P e) sz' with
      | false=>trivial
      | true =>
       rintro ⟨h1,h2,h3,h4⟩
       rw [e0,ea,z24 h1]
       have b1:Nat.blt c (Nat.add es.length new.length)=true:=by rw [Nat.blt_eq];exact h2
       simp only [cond_false,cond_true,List.len_eq,hs,b1,Bool.and_self,List.app_eq]
       exact z20 hz h3 h4
    | _=>trivial
theorem xe0 {t u:TypeId} (h:Heap) (x y:V) (hu:q24 P u=true):So.ok (builtin P .append [t,u] h [x,y]) (zk3 P t h x y (builtin P .append [t,u] h [x,y])):=by
 unfold zk3
 split
 ·exact q64 _
 ·exact qv3 h x _ hu
theorem x37 (b:Builtin) (ts:List TypeId) (h:Heap) (args:List V) (hb:b≠.recover):So.ok (builtin P b ts h args) (ze0 P b ts h args):=by
 unfold ze0
 split
 ·split
  ·split
   ·exact j13 _ h _
   ·trivial
  ·trivial
 ·split
  ·split
   ·exact j08 h _ _
   ·exact q64 _
  ·trivial
 ·split
  ·split
   ·exact xy5 h _ _
   ·exact q64 _
  ·trivial
 ·split
  ·split
   ·rename_i u _ x y
    cases hu:q24 P u with
    | false=>trivial
    | true=>exact xe0 h x y hu
   ·trivial
  ·trivial
 ·trivial
 ·exact q64 _
theorem xr4 (h:Heap) (c:Bool) (a b:V):So.ok (j8 h (Bool.rec (some b) (some a) c)) (zr3 h c a b):=by
 unfold zr3
 split
 ·split
  ·rename_i k x _ k' y
   cases hk:q54 k k' with
   | false=>exact q53 h _
   | true =>
    have:=(q75 _ _).1 hk;subst this
    cases c <;> rfl
  ·exact q53 h _
 ·split
  ·cases c <;> rfl
  ·exact q53 h _
 ·split
  ·cases c <;> rfl
  ·exact q53 h _
 ·exact q53 h _
theorem q00 {lit:Bool} {G:Nat→Option V} {tm:T V} {h:Heap} {o:Oper} (hb:∀ t len ps,o.op≠.buildSlice t len ps):q36 lit P G tm h o=oper P G tm h o:=by
 cases lit with
 | false=>rfl
 | true =>
  change z19 (w9 P G tm h o) (oper P G tm h o)=_
  have:w9 P G tm h o=oper P G tm h o:=by
   unfold w9
   split
   ·rename_i t len ps e;exact absurd e (hb t len ps)
   ·rfl
  rw [this]
  unfold z19
  split <;> rfl
theorem s1_ok {G:Nat→Option V} {tm:T V} {h:Heap} {x:Operand} {f:V→Option V} {g:V→So} (hg:∀ v,So.ok (j8 h (f v)) (g v)):So.ok (o1 G tm h x f) (s1 G tm x g):=by
 rw [zw8]
 unfold s1
 cases ev G tm x with
 | none=>trivial
 | some v=>exact hg v
theorem s2_ok {G:Nat→Option V} {tm:T V} {h:Heap} {x y:Operand} {f:V→V→Option V} {g:V→V→So} (hg:∀ v w,So.ok (j8 h (f v w)) (g v w)):So.ok (o2 G tm h x y f) (s2 G tm x y g):=by
 rw [xo9]
 unfold s2
 cases ev G tm x with
 | none=>trivial
 | some v =>
  simp only
  cases ev G tm y with
  | none=>trivial
  | some w=>exact hg v w
theorem x10 (lit:Bool) (G:Nat→Option V) (tm:T V) (h:Heap) (o:Oper):So.ok (q36 lit P G tm h o) (z97 lit P G tm h o):=by
 obtain ⟨dst,op,ty,pos,after,guard⟩:=o
 cases op with
 | binOp op t x y b=>rw [q00 (fun _ _ _ e=>by cases e)];exact s2_ok fun v w=>j12 h t _ op v w
 | unOp op t x=>rw [q00 (fun _ _ _ e=>by cases e)];exact s1_ok fun v=>j50 h op v
 | index t x i=>rw [q00 (fun _ _ _ e=>by cases e)];exact s2_ok fun v w=>xh8 h t v w
 | indexAddr t x i=>rw [q00 (fun _ _ _ e=>by cases e)];exact s2_ok fun v w=>zq8 h t v w
 | convert s d x=>rw [q00 (fun _ _ _ e=>by cases e)];exact s1_ok fun v=>xr1 h s d v
 | pick c a b =>
  rw [q00 (fun _ _ _ e=>by cases e)]
  change So.ok (qj5 G tm h c a b) (match ev G tm c with | some (.bool t)=>s2 G tm a b (zr3 h t) | _=>.no)
  unfold qj5
  cases hc:ev G tm c with
  | none=>trivial
  | some v =>
   cases v with
   | bool t =>
    simp only
    unfold s2
    cases ha:ev G tm a with
    | none=>trivial
    | some va =>
     simp only
     cases hb:ev G tm b with
     | none=>trivial
     | some vb=>exact xr4 h t va vb
   | _=>trivial
 | slice t x lo hi mx =>
  rw [q00 (fun _ _ _ e=>by cases e)]
  change So.ok (qa1 P G tm h t x lo hi mx) (s1 G tm x fun x=>match evO G tm lo with
   | none=>.no
   | some lo=>match evO G tm hi with
    | none=>.no
    | some hi=>match evO G tm mx with
     | none=>.no
     | some mx=>zf5 P h t x lo hi mx)
  unfold qa1 s1
  cases hx:ev G tm x with
  | none=>trivial
  | some v =>
   simp only
   cases h1:evO G tm lo with
   | none=>trivial
   | some lo' =>
    simp only
    cases h2:evO G tm hi with
    | none=>trivial
    | some hi' =>
     simp only
     cases h3:evO G tm mx with
     | none=>trivial
     | some mx'=>exact xm5 h t v lo' hi' mx'
 | call c =>
  unfold z97
  simp only
  split
  ·rename_i b hb
   rw [q00 (fun _ _ _ e=>by cases e)]
   change So.ok (q98 P G tm h c) _
   rw [xg8]
   cases ha:mapO (ev G tm) c.args.toList with
   | none=>trivial
   | some args =>
    simp only [hb]
    by_cases hr:b=.recover
    ·subst hr;trivial
    ·have h2:=x37 (P:=P) b c.argTypes.toList h args hr
     cases b <;> first | exact h2 | exact absurd rfl hr
  ·exact q64 _
 | _=>exact q64 _
end Go.AM
namespace Go.AM
open Go.RowKit
variable {P:Program} {E:Env} {K:Fr→Heap→Prop} {X:Ex→Fr→Heap→Prop} {N:Nat}
noncomputable def Alls (l:List Prop):Prop:=List.rec True (fun p _ ih=>p∧ih) l
theorem Alls.nil:Alls []:=trivial
theorem Alls.cons {p:Prop} {l:List Prop} (h:p) (hl:Alls l):Alls (p::l):=⟨h,hl⟩
theorem Alls.app {a b:List Prop} (h:Alls (a++b)):Alls a∧Alls b:=by
 induction a with
 | nil=>exact ⟨trivial,h⟩
 | cons p a IH=>exact ⟨⟨h.1,(IH h.2).1⟩,(IH h.2).2⟩
structure SameB (s s':Fr):Prop where
 fn:s'.fn=s.fn
 n:s'.n=s.n
 marks:s'.marks=s.marks
 defers:s'.defers=s.defers
 round:s'.round=s.round
 dk:s'.dk=s.dk
 did:s'.did=s.did
theorem SameB.refl (s:Fr):SameB s s:=⟨rfl,rfl,rfl,rfl,rfl,rfl,rfl⟩
theorem SameB.trans {a b c:Fr} (h:SameB a b) (k:SameB b c):SameB a c:=⟨k.fn.trans h.fn,k.n.trans h.n,k.marks.trans h.marks,k.defers.trans h.defers,k.round.trans h.round,k.dk.trans h.dk,k.did.trans h.did⟩
theorem SameB.put {s s1:Fr} {d:Option Tmp} {v:V} (hp:s.put d v=some s1):SameB s s1:=by
 cases d with
 | none =>
  change some s=some s1 at hp
  cases hp;exact .refl _
 | some d =>
  cases hb:Nat.blt d s.n with
  | false=>rw [Fr.put_no hb] at hp;cases hp
  | true =>
   rw [Fr.put_st hb] at hp
   cases hp
   exact ⟨rfl,rfl,rfl,rfl,rfl,rfl,rfl⟩
theorem SameB.on (b:Fr) (L:List (Nat×V)):SameB b (b.on L):=⟨rfl,rfl,rfl,rfl,rfl,rfl,rfl⟩
theorem SameB.keep {b s:Fr} {ks:List Nat} {L:List (Nat×V)} (h:SameB b s) (hk:q96 s ks=L):Le (b.on L) s :=
 Le.keep hk h.fn.symm h.n.symm h.marks.symm h.defers.symm h.round.symm h.dk.symm h.did.symm
noncomputable def putS (s:Fr) (o:Oper) (v:V) (h:Heap) (φ:List Prop):Option (Fr×Heap×List Prop) :=
 match s.put o.dst v with
 | some s1=>some (s1,h,φ)
 | none=>none
noncomputable def j78 (E:Env) (s:Fr) (o:Oper) (r:Rs):Option (Fr×Heap×List Prop) :=
 match r with
 | .call f args h1=>match zr5 E f args h1 with
  | some (v,h2)=>putS s o v h2 []
  | none=>none
 | _=>none
noncomputable def ze4 (P:Program) (E:Env) (all:List Oper) (o:Oper) (s:Fr) (h:Heap):Option (Fr×Heap×List Prop) :=
 match j9 all s o with
 | none=>none
 | some t=>bif t then
   (match z97 (E.lit s.fn) P E.glob s.tm h o with
   | .val v h1=>putS s o v h1 []
   | .obl v h1 φ=>putS s o v h1 [φ]
   | .skip h1=>putS s o undef h1 []
   | .no=>j78 E s o (q36 (E.lit s.fn) P E.glob s.tm h o))
  else putS s o undef h []
noncomputable def runB (P:Program) (E:Env) (all:List Oper) (n:Nat):List Oper→Fr→Heap→Option (Fr×Heap×List Prop) :=
 Nat.rec (motive:=fun _=>List Oper→Fr→Heap→Option (Fr×Heap×List Prop)) (fun _ s h=>some (s,h,[]))
  (fun _ ih l s h=>match l with
   | []=>none
   | o::l=>match ze4 P E all o s h with
    | none=>none
    | some (s1,h1,φ)=>match ih l s1 h1 with
     | none=>none
     | some (s2,h2,φs)=>some (s2,h2,φ++φs)) n
noncomputable def sumB (ks:List Nat) (r:Option (Fr×Heap×List Prop)):Option (List (Nat×V)×Heap×List Prop) :=
 match r with
 | some (s,h,φs)=>some (q96 s ks,h,φs)
 | none=>none
noncomputable def sumP (ks:List Nat) (r:Option Fr):Option (List (Nat×V)) :=
 match r with
 | some s=>some (q96 s ks)
 | none=>none
theorem qk9 {s:Fr} {o:Oper} {v:V} {h:Heap} {φ:List Prop} {r:Fr×Heap×List Prop} (hp:putS s o v h φ=some r):∃ s1,s.put o.dst v=some s1∧r=(s1,h,φ):=by
 unfold putS at hp
 split at hp
 ·rename_i s1 e;cases hp;exact ⟨s1,e,rfl⟩
 ·cases hp
theorem xr9 {all l:List Oper} {o:Oper} {s s1:Fr} {h h1:Heap} {φ:List Prop} (hs:ze4 P E all o s h=some (s1,h1,φ)) (hφ:Alls φ):SameB s s1∧(∀ K X N,Wl P E all l s1 h1 K X N→Wl P E all (o::l) s h K X N):=by
 unfold ze4 at hs
 ·cases hw:j9 all s o with
  | none=>rw [hw] at hs;cases hs
  | some t =>
   rw [hw] at hs
   cases t with
   | false =>
    obtain ⟨s1',hp,e⟩:=qk9 hs
    cases e
    exact ⟨.put hp,fun K X N hr=>Wl.not hw hp hr⟩
   | true =>
    simp only [cond_true] at hs
    have hok:=x10 (P:=P) (E.lit s.fn) E.glob s.tm h o
    cases ho:z97 (E.lit s.fn) P E.glob s.tm h o with
    | val v h' =>
     rw [ho] at hs hok
     obtain ⟨s1',hp,e⟩:=qk9 hs
     cases e
     exact ⟨.put hp,fun K X N hr=>Wl.val v hw hok hp hr⟩
    | obl v h' ψ =>
     rw [ho] at hs hok
     obtain ⟨s1',hp,e⟩:=qk9 hs
     cases e
     exact ⟨.put hp,fun K X N hr=>Wl.val v hw (hok hφ.1) hp hr⟩
    | skip h' =>
     rw [ho] at hs hok
     obtain ⟨s1',hp,e⟩:=qk9 hs
     cases e
     exact ⟨.put hp,fun K X N hr=>Wl.store hw hok hp hr⟩
    | no =>
     rw [ho] at hs
     simp only at hs
     cases hr:q36 (E.lit s.fn) P E.glob s.tm h o with
     | call f args h' =>
      rw [hr] at hs
      change (match zr5 E f args h' with | some (v,h2)=>putS s o v h2 [] | none=>none)=some (s1,h1,φ) at hs
      cases hq:zr5 E f args h' with
      | none=>rw [hq] at hs;cases hs
      | some p =>
       obtain ⟨v,h2⟩:=p
       rw [hq] at hs
       obtain ⟨s1',hp,e⟩:=qk9 hs
       cases e
       unfold zr5 at hq
       cases hsh:E.shared f with
       | true=>rw [hsh] at hq;cases hq
       | false =>
        rw [hsh] at hq
        simp only [cond_false] at hq
        split at hq
        ·cases hq
        ·rename_i gs h1' ha
         split at hq
         ·rename_i v1 hv1
          exact ⟨.put hp,fun K X N hr2=>Wl.came hw hr (xj1 hsh ha hv1 hq) hp hr2⟩
         ·cases hq
     | _=>rw [hr] at hs;cases hs
theorem x72 {all:List Oper} (n:Nat):∀ {l:List Oper} {s s2:Fr} {h h2:Heap} {φs:List Prop},runB P E all n l s h=some (s2,h2,φs)→Alls φs→SameB s s2∧(∀ K X N,Wl P E all (l.drop n) s2 h2 K X N→Wl P E all l s h K X N):=by
 induction n with
 | zero =>
  intro l s s2 h h2 φs hr _
  change some (s,h,[])=some (s2,h2,φs) at hr
  cases hr
  exact ⟨.refl _,fun K X N hw=>hw⟩
 | succ n IH =>
  intro l s s2 h h2 φs hr hφ
  cases l with
  | nil=>cases hr
  | cons o l =>
   change (match ze4 P E all o s h with
    | none=>none
    | some (s1,h1,φ)=>match runB P E all n l s1 h1 with
     | none=>none
     | some (s2,h2,φs)=>some (s2,h2,φ++φs))=some (s2,h2,φs) at hr
   cases hs:ze4 P E all o s h with
   | none=>rw [hs] at hr;cases hr
   | some p =>
    obtain ⟨s1,h1,φ⟩:=p
    rw [hs] at hr
    simp only at hr
    cases hq:runB P E all n l s1 h1 with
    | none=>rw [hq] at hr;cases hr
    | some q =>
     obtain ⟨s2',h2',φs'⟩:=q
     rw [hq] at hr
     cases hr
     obtain ⟨a1,a2⟩:=Alls.app hφ
     obtain ⟨b1,b2⟩:=xr9 (l:=l) hs a1
     obtain ⟨c1,c2⟩:=IH hq a2
     exact ⟨b1.trans c1,fun K X N hw=>b2 K X N (c2 K X N hw)⟩
theorem z67 {ks:List Nat} {r:Option (Fr×Heap×List Prop)} {L:List (Nat×V)} {h:Heap} {φs:List Prop} (hb:sumB ks r=some (L,h,φs)):∃ s,r=some (s,h,φs)∧q96 s ks=L:=by
 unfold sumB at hb
 split at hb
 ·cases hb;exact ⟨_,rfl,rfl⟩
 ·cases hb
theorem q14 {ks:List Nat} {r:Option Fr} {L:List (Nat×V)} (hb:sumP ks r=some L):∃ s,r=some s∧q96 s ks=L:=by
 unfold sumP at hb
 split at hb
 ·cases hb;exact ⟨_,rfl,rfl⟩
 ·cases hb
theorem Wc.whole {id:Nat} {ops:Array Oper} {b:Fr} {L:List (Nat×V)} {h:Heap} (ks:List Nat) (L':List (Nat×V)) (h':Heap) (φs:List Prop) (hb:sumB ks (runB P E ops.toList (List.len ops.toList) ops.toList (b.on L) h)=some (L',h',φs)) (ho:Alls φs) (hk:K (b.on L') h'):Wc P E (.region id ops false) (b.on L) h K X N:=by
 obtain ⟨s,hr,hL⟩:=z67 hb
 obtain ⟨h1,h2⟩:=x72 _ hr ho
 refine Wc.region (h2 K X N ?_)
 rw [List.len_eq,List.drop_length]
 exact (Wl.nil hk).weak (((SameB.on b L).trans h1).keep hL)
theorem Wc.enter {id:Nat} {ops:Array Oper} {s:Fr} {h:Heap} (ho:Wl P E ops.toList (ops.toList.drop 0) s h K X N):Wc P E (.region id ops false) s h K X N:=Wc.region ho
theorem Wl.batch {all:List Oper} {b:Fr} {L:List (Nat×V)} {h:Heap} (i j:Nat) (ks:List Nat) (L':List (Nat×V)) (h':Heap) (φs:List Prop) (hb:sumB ks (runB P E all (j-i) (all.drop i) (b.on L) h)=some (L',h',φs)) (hij:Nat.ble i j=true) (ho:Alls φs) (hk:Wl P E all (all.drop j) (b.on L') h' K X N):Wl P E all (all.drop i) (b.on L) h K X N:=by
 obtain ⟨s,hr,hL⟩:=z67 hb
 obtain ⟨h1,h2⟩:=x72 _ hr ho
 refine h2 K X N ?_
 rw [Nat.ble_eq] at hij
 rw [List.drop_drop,show i+(j-i)=j by omega]
 exact hk.weak (((SameB.on b L).trans h1).keep hL)
theorem Wl.done {all:List Oper} {s:Fr} {h:Heap} (j:Nat) (hj:Nat.ble (List.len all) j=true) (hk:K s h):Wl P E all (all.drop j) s h K X N:=by
 rw [Nat.ble_eq,List.len_eq] at hj
 rw [List.drop_eq_nil_of_le hj]
 exact Wl.nil hk
noncomputable def opAt (all:List Oper) (i:Nat) (s:Fr):Option Oper :=
 match List.at all i with
 | none=>none
 | some o=>match j9 all s o with
  | some true=>some o
  | _=>none
theorem qj9 {all:List Oper} {i:Nat} {s:Fr} {o:Oper} (h:opAt all i s=some o):all.drop i=o::all.drop (i+1)∧j9 all s o=some true:=by
 unfold opAt at h
 rw [List.at_eq] at h
 cases ho:all[i]? with
 | none=>rw [ho] at h;cases h
 | some o' =>
  rw [ho] at h
  simp only at h
  split at h
  ·rename_i hw
   cases h
   obtain ⟨hi,e⟩:=List.getElem?_eq_some_iff.1 ho
   exact ⟨by rw [List.drop_eq_getElem_cons hi,e],hw⟩
  ·cases h
theorem Wl.opv {all:List Oper} {b:Fr} {L:List (Nat×V)} {h h1:Heap} {o:Oper} {v:V} (i:Nat) (ks:List Nat) (L':List (Nat×V)) (ho:opAt all i (b.on L)=some o) (he:q36 (E.lit b.fn) P E.glob (b.on L).tm h o=.val v h1) (hp:sumP ks ((b.on L).put o.dst v)=some L') (hk:Wl P E all (all.drop (i+1)) (b.on L') h1 K X N):Wl P E all (all.drop i) (b.on L) h K X N:=by
 obtain ⟨e,h2⟩:=qj9 ho
 obtain ⟨s1,hp1,hL⟩:=q14 hp
 rw [e]
 exact Wl.val v h2 he hp1 (hk.weak (((SameB.on b L).trans (.put hp1)).keep hL))
noncomputable def qw1 (E:Env) (all:List Oper) (i:Nat) (s:Fr):Option (TypeId×V×Option Tmp) :=
 match opAt all i s with
 | none=>none
 | some o=>match o.op with
  | .load t x=>match ev E.glob s.tm x with
   | some a=>some (t,a,o.dst)
   | none=>none
  | _=>none
theorem Wl.load {all:List Oper} {b:Fr} {L:List (Nat×V)} {h:Heap} {t:TypeId} {a:V} {d:Option Tmp} (i:Nat) (v:V) (ks:List Nat) (L':List (Nat×V)) (ho:qw1 E all i (b.on L)=some (t,a,d)) (hv:load P h t a=some v) (hp:sumP ks ((b.on L).put d v)=some L') (hk:Wl P E all (all.drop (i+1)) (b.on L') h K X N):Wl P E all (all.drop i) (b.on L) h K X N:=by
 unfold qw1 at ho
 split at ho
 ·cases ho
 ·rename_i o hoa
  split at ho
  ·rename_i t' x hop
   split at ho
   ·rename_i a' hev
    cases ho
    refine Wl.opv i ks L' hoa (v:=v) (h1:=h) ?_ hp hk
    rw [q00 (fun _ _ _ e=>by rw [hop] at e;cases e)]
    unfold oper
    rw [hop,zj1,zw8,hev]
    simp only [hv]
    rfl
   ·cases ho
  ·cases ho
noncomputable def qv6 (P:Program) (E:Env) (all:List Oper) (i:Nat) (s:Fr) (h:Heap):Option (FuncId×List V×Heap×Option Tmp) :=
 match opAt all i s with
 | none=>none
 | some o=>match q36 (E.lit s.fn) P E.glob s.tm h o with
  | .call f args h1=>some (f,args,h1,o.dst)
  | _=>none
theorem Wl.callC {all:List Oper} {b:Fr} {L:List (Nat×V)} {h h1 h2:Heap} {f:FuncId} {args:List V} {v:V} {d:Option Tmp} (i:Nat) (ks:List Nat) (L':List (Nat×V)) (hc:Came P E f args h1 v h2) (ho:qv6 P E all i (b.on L) h=some (f,args,h1,d)) (hp:sumP ks ((b.on L).put d v)=some L') (hk:Wl P E all (all.drop (i+1)) (b.on L') h2 K X N):Wl P E all (all.drop i) (b.on L) h K X N:=by
 unfold qv6 at ho
 split at ho
 ·cases ho
 ·rename_i o hoa
  split at ho
  ·rename_i f' args' h1' hr
   cases ho
   obtain ⟨e,k2⟩:=qj9 hoa
   obtain ⟨s1,hp1,hL⟩:=q14 hp
   rw [e]
   exact Wl.came k2 hr hc hp1 (hk.weak (((SameB.on b L).trans (.put hp1)).keep hL))
  ·cases ho
noncomputable def qv4 (P:Program) (E:Env) (all:List Oper) (i:Nat) (s:Fr) (h:Heap):Option (FuncId×List V×Heap×Option Tmp) :=
 match qv6 P E all i s h with
 | none=>none
 | some (f,args,h1,d)=>bif E.shared f then none else match pubL (pub [] q04) args h1 with
  | none=>none
  | some (gs,h2)=>match E.prim f gs with
   | none=>some (f,gs,Bool.rec h2 h1 (E.borrow f),d)
   | some _=>none
theorem Wl.callP {all:List Oper} {b:Fr} {L:List (Nat×V)} {h h1 h2:Heap} {f:FuncId} {gs:List V} {g v:V} {d:Option Tmp} (i:Nat) (ks:List Nat) (L':List (Nat×V)) (hc:Cp P E f gs g) (ho:qv4 P E all i (b.on L) h=some (f,gs,h1,d)) (ht:give E f h1 g=some (v,h2)) (hp:sumP ks ((b.on L).put d v)=some L') (hk:Wl P E all (all.drop (i+1)) (b.on L') h2 K X N):Wl P E all (all.drop i) (b.on L) h K X N:=by
 unfold qv4 at ho
 split at ho
 ·cases ho
 ·rename_i f' args h1' d' hca
  cases hs:E.shared f' with
  | true=>rw [hs] at ho;cases ho
  | false =>
   rw [hs] at ho
   simp only [cond_false] at ho
   split at ho
   ·cases ho
   ·rename_i gs' h2' ha
    split at ho
    ·rename_i hn
     cases ho
     exact Wl.callC i ks L' (hc.came hs ha hn ht) hca hp hk
    ·cases ho
noncomputable def qb5 (P:Program) (E:Env) (all:List Oper) (i:Nat) (s:Fr) (h:Heap):Option (FuncId×List V×Heap×Option Tmp) :=
 match qv6 P E all i s h with
 | none=>none
 | some (f,args,h1,d)=>bif E.shared f&&!(E.pubRet f) then some (f,args,h1,d) else none
theorem Wl.callS {all:List Oper} {b:Fr} {L:List (Nat×V)} {h h1 h2:Heap} {f:FuncId} {args:List V} {v:V} {d:Option Tmp} (i:Nat) (ks:List Nat) (L':List (Nat×V)) (hc:Cs P E f args h1 v h2) (ho:qb5 P E all i (b.on L) h=some (f,args,h1,d)) (hp:sumP ks ((b.on L).put d v)=some L') (hk:Wl P E all (all.drop (i+1)) (b.on L') h2 K X N):Wl P E all (all.drop i) (b.on L) h K X N:=by
 unfold qb5 at ho
 split at ho
 ·cases ho
 ·rename_i f' args' h1' d' hca
  cases hs:(E.shared f'&&!(E.pubRet f')) with
  | false=>rw [hs] at ho;cases ho
  | true =>
   rw [hs] at ho
   cases ho
   simp only [Bool.and_eq_true,Bool.not_eq_true'] at hs
   exact Wl.callC i ks L' (hc.came hs.1 hs.2) hca hp hk
noncomputable def hp (l:List Obj):Heap:=List.rec (motive:=fun _=>Heap→Heap) (fun h=>h) (fun o _ ih h=>ih (h.new o)) l Heap.empty
theorem retX.mk {fn:Func} {R:V→Heap→Prop} {b:Fr} {L:List (Nat×V)} {h:Heap} (v:V) (hm:b.marks=[]∧b.defers=[]) (hv:qi0 P fn (b.on L) h=some v) (hR:R v h):retX P fn R (b.on L) h:=⟨hm.2,h,by show q55 b.marks h=some h;rw [hm.1];rfl,v,hv,hR⟩
theorem retX.marks {fn:Func} {R:V→Heap→Prop} {b:Fr} {L:List (Nat×V)} {h:Heap} (h1:Heap) (v:V) (hd:b.defers=[]) (hm:q55 b.marks h=some h1) (hv:qi0 P fn (b.on L) h1=some v) (hR:R v h1):retX P fn R (b.on L) h:=⟨hd,h1,hm,v,hv,hR⟩
def zy2 (s:List UInt8) (pos:Nat):Nat:=(Utf8.decode ⟨⟨s⟩⟩ pos).1
def qe4 (s:List UInt8) (pos:Nat):Nat:=(Utf8.decode ⟨⟨s⟩⟩ pos).2
noncomputable def xj9 (E:Env) (all:List Oper) (i:Nat) (s:Fr) (h:Heap):Option (Nat×List UInt8×Nat×Option Tmp) :=
 match opAt all i s with
 | none=>none
 | some o=>match o.op with
  | .next it isString=>bif isString then (match ev E.glob s.tm it with
   | some (.iter r)=>match h.get r with
    | .siter x pos=>some (r,x,pos,o.dst)
    | _=>none
   | _=>none) else none
  | _=>none
theorem Wl.next {all:List Oper} {b:Fr} {L:List (Nat×V)} {h:Heap} {d:Option Tmp} (i r:Nat) (x:List UInt8) (pos:Nat) (h1:Heap) (ks:List Nat) (L1 L2:List (Nat×V)) (ho:xj9 E all i (b.on L) h=some (r,x,pos,d)) (hh:h.set r (.siter x (pos+qe4 x pos))=h1)
  (hp1:sumP ks ((b.on L).put d (.tup [.bool true,.int .i64 (pos:Int),.int .i32 (zy2 x pos:Int)]))=some L1) (hp2:sumP ks ((b.on L).put d (.tup [.bool false]))=some L2)
  (hk1:pos<x.length→Wl P E all (all.drop (i+1)) (b.on L1) h1 K X N) (hk2:x.length≤pos→Wl P E all (all.drop (i+1)) (b.on L2) h K X N):Wl P E all (all.drop i) (b.on L) h K X N:=by
 unfold xj9 at ho
 split at ho
 ·cases ho
 ·rename_i o hoa
  split at ho
  ·rename_i it isString hop
   cases isString with
   | false=>cases ho
   | true =>
    simp only [cond_true] at ho
    split at ho
    ·rename_i r' hev
     split at ho
     ·rename_i x' pos' hget
      cases ho
      have hE:q36 (E.lit b.fn) P E.glob (b.on L).tm h o=qn9 E.glob (b.on L).tm h it true:=by
       rw [q00 (fun _ _ _ e=>by rw [hop] at e;cases e)]
       unfold oper
       rw [hop];rfl
      have hN:qn9 E.glob (b.on L).tm h it true=bif Nat.blt pos (List.len x) then .val (.tup [.bool true,.int .i64 (Int.ofNat pos),.int .i32 (Int.ofNat (Utf8.decode ⟨⟨x⟩⟩ pos).1)]) (h.set r (.siter x (Nat.add pos (Utf8.decode ⟨⟨x⟩⟩ pos).2))) else .val (.tup [.bool false]) h:=by
       unfold qn9
       simp only [cond_true,hev,hget]
      by_cases hlt:pos<x.length
      ·refine Wl.opv i ks L1 hoa (v:=.tup [.bool true,.int .i64 (pos:Int),.int .i32 (zy2 x pos:Int)]) (h1:=h1) ?_ hp1 (hk1 hlt)
       have e1:Nat.blt pos (List.len x)=true:=by rw [Nat.blt_eq,List.len_eq];exact hlt
       rw [hE,hN,e1,← hh];rfl
      ·refine Wl.opv i ks L2 hoa (v:=.tup [.bool false]) (h1:=h) ?_ hp2 (hk2 (by omega))
       have e1:Nat.blt pos (List.len x)=false:=by
        rw [Bool.eq_false_iff];intro q;rw [Nat.blt_eq,List.len_eq] at q;exact hlt q
       rw [hE,hN,e1];rfl
     ·cases ho
    ·cases ho
  ·cases ho
theorem Wl.join {all l:List Oper} {s b:Fr} {h:Heap} {p:Prop} [Decidable p] (L':List (Nat×V)) (h':Heap) (h1:p→Wl P E all l s h (fun s1 h1=>Le (b.on L') s1∧h1=h') X N) (h2:¬ p→Wl P E all l s h (fun s1 h1=>Le (b.on L') s1∧h1=h') X N) (hk:K (b.on L') h'):Wl P E all l s h K X N:=by
 intro hF B w0 g0 g w a fr k cs ops i e1 e2 hD hg hW hG hf
 have key:Wl P E all l s h (fun s1 h1=>Le (b.on L') s1∧h1=h') X N:=by
  by_cases hp:p
  ·exact h1 hp
  ·exact h2 hp
 obtain ⟨e,s1,hh,g1,a1,w1,q1,q2,q3,q4,q5⟩:=key hF a fr k cs ops i e1 e2 hD hg hW hG hf
 cases e with
 | normal =>
  obtain ⟨hl,he⟩:=q5
  subst he
  exact ⟨.normal,_,_,g1,a1,w1,q1,q2,hl.ok q3,q4,hk⟩
 | exit id=>exact ⟨.exit id,s1,hh,g1,a1,w1,q1,q2,q3,q4,q5⟩
 | goto l=>exact q4.elim
 | ret=>exact ⟨.ret,s1,hh,g1,a1,w1,q1,q2,q3,q4,q5⟩
 | panic y=>exact ⟨.panic y,s1,hh,g1,a1,w1,q1,q2,q3,q4,q5⟩
theorem Wl.split {all l:List Oper} {s:Fr} {h:Heap} {p:Prop} [Decidable p] (h1:p→Wl P E all l s h K X N) (h2:¬ p→Wl P E all l s h K X N):Wl P E all l s h K X N:=by
 by_cases hp:p
 ·exact h1 hp
 ·exact h2 hp
theorem qy8 {p q:Prop} [Decidable p] [Decidable q] (h:p):decide (p∧q)=decide q:=by simp [h]
theorem qo2 {p q:Prop} [Decidable p] [Decidable q] (h:¬ p):decide (p∧q)=false:=by simp [h]
theorem xw5 {p q:Prop} [Decidable p] [Decidable q] (h:p):decide (p∨q)=true:=by simp [h]
theorem xk6 {p q:Prop} [Decidable p] [Decidable q] (h:¬ p):decide (p∨q)=decide q:=by simp [h]
theorem Le.on' {b:Fr} {L L':List (Nat×V)} (ks:List Nat) (L1:List (Nat×V)) (hk:q96 (b.on L) ks=L1) (he:L1=L'):Le (b.on L') (b.on L):=by
 subst he;exact Le.on ks hk
end Go.AM
namespace Go.AM
open Go.RowKit
variable {P:Program} {E:Env} {K:Fr→Heap→Prop} {X:Ex→Fr→Heap→Prop} {N:Nat}
theorem Cp.ext {f:FuncId} {fn:Func} {gs:List V} {g v:V} {h:Heap} (hf:P.funcs[f]?=some fn) (hb:fn.body=none) (hx:z58 P fn gs Heap.empty=some (v,h)) (hr:q58 h v=some g):Cp P E f gs g :=
 Cx.pure fun _ _ _ _ _ _ _ hW _ hs=>⟨v,h,hr,by
  obtain ⟨g',w',u,h1,h2,h3,h4⟩:=z51 hW hs hf hb hx
  exact ⟨g',w',u,h1,h2,h3,.inl h4⟩⟩
theorem Cs.ext {f:FuncId} {fn:Func} {args:List V} {v:V} {h h':Heap} (hf:P.funcs[f]?=some fn) (hb:fn.body=none) (hx:z58 P fn args h=some (v,h')):Cs P E f args h v h':=fun _ _ _ _ _ _ _ hW _ hs=>by
 obtain ⟨g',w',u,h1,h2,h3,h4⟩:=z51 hW hs hf hb hx
 exact ⟨g',w',u,h1,h2,h3,.inl h4⟩
def TSat (n:Nat) (L:List (Nat×V)) (tm:T V):Prop:=∀ i,i<n→(mkT n L).get undef i=lost∨tm.get undef i=(mkT n L).get undef i
noncomputable def zm5 (E:Env) (f:Operand) (s:Fr) (l:Nat):Option (FuncId×List V) :=
 bif qd7 s f then (match ev E.glob s.tm f with
  | some fv=>(match fv with
   | .func fn first cap=>(match fn with
    | .func g=>bif E.shared g then some (g,List.app (List.app first [.func (.yield l) [] []]) cap) else none
    | _=>none)
   | _=>none)
  | none=>none) else none
def rEnd (P:Program) (E:Env) (l fn n:Nat) (ps:List Tmp) (as bd:Code) (d:Nat) (s:Fr) (K:Fr→Heap→Prop) (X:Ex→Fr→Heap→Prop) (N:Nat) (_:V) (h:Heap):Prop :=
 ∃ st pd tm,h.get l=.loop st pd fn n tm ps as bd d∧st≠.busy∧(match pd with
  | none=>K s (h.set l (.loop .exhausted none fn n tm ps as bd d))
  | some c=>Wc P E c s (h.set l (.loop .exhausted (some c) fn n tm ps as bd d)) K X N)
theorem Wc.range {f:Operand} {params:Array Tmp} {as bd:Code} {b:Fr} {L:List (Nat×V)} {h:Heap} {q:FuncId} {args:List V} (hro:b.round=none) (hde:b.defers=[]) (ho:zm5 E f (b.on L) (h.n+1)=some (q,args))
  (hnn:(h.new .defs).n=h.n+1)
  (hw:∀ tm,TSat b.n L tm→Cx P E q args ((h.new .defs).new (.loop .ready none b.fn b.n tm params.toList as bd h.n)) (rEnd P E (h.n+1) b.fn b.n params.toList as bd h.n ({ b with marks:=h.n::b.marks }.on L) K X N)):Wc P E (.rangeFunc f params as bd) (b.on L) h K X N:=by
 intro hF B w0 g0 g w a bf k cs hD hg hW hG hf
 have hGg:=hG.mono hg.ext.S
 unfold zm5 at ho
 cases hk:qd7 (b.on L) f with
 | false=>rw [hk] at ho;cases ho
 | true =>
  rw [hk] at ho
  simp only [cond_true] at ho
  split at ho
  ·rename_i fv hfv
   split at ho
   ·rename_i fnv first cap
    split at ho
    ·rename_i q'
     cases hsh:E.shared q' with
     | false=>rw [hsh] at ho;cases ho
     | true =>
      rw [hsh] at ho
      cases ho
      have hro':bf.roundOf=none:=by have:=hf.round;change qf3 g bf.roundOf b.round at this;rw [hro] at this;exact this
      have hmk0:=hf.marks
      change q22 g a.defers b.marks b.defers at hmk0
      rw [hde] at hmk0
      have hmk0:=hmk0.marks
      let o1:Go.Obj:=.deferred (some [])
      let Lp:Loop:={ state:=.ready,pending:=none,fn:=bf.fn,tmps:=a.tmps,params:=params,assign:=as,body:=bd,defers:=w.heap.size }
      let w1:World:={ w with heap:=w.heap.push o1 }
      let w2:World:={ w1 with heap:=w1.heap.push (.loop Lp) }
      let g1:=g.new h.n (w.heap.size,0,0) none
      have hW1:W B w0 g1 (h.new .defs) w1:=hW.alloc o1 .defs 0 0 (q19 w _)
      have hn1:(h.new .defs).n=h.n+1:=Heap.n_new _ _
      let g2:=g1.new (h.new .defs).n (w1.heap.size,0,0) none
      have hx1:Grown B g g1:=Grown.new hW _ _
      have hx2:Grown B g1 g2:=Grown.new hW1 _ _
      have hgg:=hx1.trans hx2
      have hdv:g2.vr h.n=none∧g2.mu h.n=some (w.heap.size,0,0):=by
       have:¬ h.n=h.n+1:=by omega
       simp [g2,g1,Gh.new,hn1]
      have hlv:g2.vr (h.new .defs).n=none∧g2.mu (h.new .defs).n=some (w1.heap.size,0,0):=by simp [g2,Gh.new]
      have hW2:W B w0 g2 ((h.new .defs).new (.loop .ready none b.fn b.n (mkT b.n L) params.toList as bd h.n)) w2:=by
       refine hW1.alloc (.loop Lp) (.loop .ready none b.fn b.n (mkT b.n L) params.toList as bd h.n) 0 0 ?_
       exact ⟨hf.slots.none,Lp,q19 w1 _,rfl,rfl,hf.fn,hf.slots.size,fun i v hv=>(hf.slots.rel i v hv).imp id fun q=>q.mono hgg.ext,rfl,rfl,rfl,hdv.1,_,hdv.2⟩
      have henter:(Instr.enterLoop bf.fn a.tmps params as bd bf.roundOf).run P w=.ok (w1.heap.size,[{ target:=.collected w.heap.size,args:=#[] }]) w2:=by
       rw [hro',run_enterLoop_outer]
       have:w1.heap.size=w.heap.size+1:=by simp [w1]
       rw [this];rfl
      have hfR:R g2 (a.eval f) (.func (.func q) first cap):=(k6 hf.slots hGg hfv).mono hgg.ext
      have hargs:Rs' g2 #[.func (.yield w1.heap.size) #[] #[]] [.func (.yield (h.new .defs).n) [] []]:=⟨rfl,fun i v x hv hx=>by
       cases i with
       | zero=>cases hv;cases hx;exact .yield hlv.1 hlv.2
       | succ i=>simp at hv⟩
      have hgood:=z15 (P:=P) hW2 hfR hargs
      have hgood':Good P B w0 g2 ((do let d ← resolve a.eval (q61 f w1.heap.size) 0;invoke d.target d.args:Sem Next).run P w2) (.call q (List.app (List.app first [.func (.yield (h.n+1)) [] []]) cap) ((h.new .defs).new (.loop .ready none b.fn b.n (mkT b.n L) params.toList as bd h.n))):=by
       have e:resolve a.eval (q61 f w1.heap.size) 0=Deferred.ofValue (a.eval f) #[.func (.yield w1.heap.size) #[] #[]]:=by simp [resolve,q61,Act.eval]
       rw [e,← hn1];exact hgood
      obtain ⟨us,w3,g3,e,hg3,hW3,hs3⟩:=hgood'
      have hg03:=hgg.trans hg3
      have hfr:∀ {g':Gh},Grown B g3 g'→FrOk g' bf ({ b with marks:=h.n::b.marks }.on L) { a with defers:=[{ target:=.collected w.heap.size,args:=#[] }]++a.defers }:=fun hg'=>by
       have hall:=hg03.trans hg'
       have hm:=(hg3.trans hg').ext.obj _ _ hdv.1 hdv.2
       have hmk:=hmk0.mono hall.ext
       refine ⟨hf.fn,hf.slots.mono hall.ext,hf.round.mono hall.ext,.inl ⟨hde,by show _=(h.n::b.marks).length;simp [hmk.1],fun i d m p q=>?_⟩⟩
       cases i with
       | zero=>cases p;cases q;exact ⟨_,_,rfl,hm.1,hm.2⟩
       | succ i=>exact hmk.2 i d m (by simpa using p) (by exact q)
      obtain ⟨y,h4,⟨st,pe,tm,hget,hst,hend⟩,g4,w4,v,hg4,hW4,hR4,hret⟩:=hw (mkT b.n L) (fun i _=>.inr rfl) hF (bf.atR { a with defers:=[{ target:=.collected w.heap.size,args:=#[] }]++a.defers } (.inRangeFunc w1.heap.size::k)::cs) us hW3 (hGg.mono hg03.ext.S) hs3
      have hsteps:Steps P (lone (bf.atR a (.code (.rangeFunc f params as bd)::k)) cs w) (lone (bf.atR { a with defers:=[{ target:=.collected w.heap.size,args:=#[] }]++a.defers } (.endRangeFunc w1.heap.size::k)) cs w4):=by
       rcases hret with hv | ⟨he,frx,s1,_,s2⟩
       ·exact .one (qq0 henter (e.trans hv))
       ·exact .head (qe7 henter (e.trans he)) (s1.trans (.one (step_leave_returned s2)))
      obtain ⟨hlv4,hlm4⟩:=(hg3.trans hg4).ext.obj _ _ hlv.1 hlv.2
      rw [hn1] at hlv4 hlm4
      obtain ⟨L4,q1,q2,q3,hW5⟩:=W.setLoop (st':=.exhausted) (pe':=pe) hW4 hlv4 hlm4 hget
      have hendL:(Instr.endLoop w1.heap.size).run P w4=.ok pe (w4.putObj w1.heap.size (.loop { L4 with state:=.exhausted,pending:=pe })):=by
       have:=run_endLoop (P:=P) q1 (by rw [q2];exact hst)
       rw [q3] at this;exact this
      have hgall:=hg.trans (hg03.trans hg4)
      have hall:=hsteps.trans (.one (qm2 hendL))
      cases pe with
      | none=>exact ⟨.normal,_,_,g4,_,_,hgall,hW5,hfr hg4,hall,hend⟩
      | some c=>exact .steps hall (hend hF _ bf k cs hD hgall hW5 hG (hfr hg4))
    ·cases ho
   ·cases ho
  ·cases ho
def qk5 (fn n l:Nat):Fr:=⟨fn,n,.e,[],[],some l,none,false⟩
noncomputable def setL (n:Nat) (ps:List Tmp) (args:List V) (L:List (Nat×V)) (ks:List Nat):Option (List (Nat×V)) :=
 match q74 ps n args (mkT n L) with
 | some t=>some (q96 ⟨0,n,t,[],[],none,none,false⟩ ks)
 | none=>none
theorem zp3 {n:Nat} (ps:List Tmp):∀ {args:List V} {t tm t':T V},(∀ i,i<n→t.get undef i=lost∨tm.get undef i=t.get undef i)→q74 ps n args t=some t'→∃ tm',q74 ps n args tm=some tm'∧∀ i,i<n→t'.get undef i=lost∨tm'.get undef i=t'.get undef i:=by
 induction ps with
 | nil =>
  intro args t tm t' h hs
  cases args with
  | nil =>
   change some t=some t' at hs
   cases hs
   exact ⟨tm,rfl,h⟩
  | cons v args=>cases hs
 | cons p ps IH =>
  intro args t tm t' h hs
  cases args with
  | nil=>cases hs
  | cons v args =>
   change (bif Nat.blt p n then q74 ps n args (t.set undef v p) else none)=some t' at hs
   cases hp:Nat.blt p n with
   | false=>rw [hp] at hs;cases hs
   | true =>
    rw [hp] at hs
    obtain ⟨tm',h1,h2⟩:=IH (t:=t.set undef v p) (tm:=tm.set undef v p) (fun i hi=>by
     rw [T.get_set,T.get_set]
     split
     ·exact .inr rfl
     ·exact h i hi) hs
    refine ⟨tm',?_,h2⟩
    change (bif Nat.blt p n then q74 ps n args (tm.set undef v p) else none)=some tm'
    rw [hp];exact h1
def yEnd (l fn n:Nat) (tm:T V) (ps:List Tmp) (as bd:Code) (d:Nat) (C:Bool→Heap→Prop) (_:Fr) (h:Heap):Prop :=
 ∃ pd,h.get l=.loop .busy pd fn n tm ps as bd d∧C true (h.set l (.loop .ready none fn n tm ps as bd d))
def yOut (l fn n:Nat) (tm:T V) (ps:List Tmp) (as bd:Code) (d:Nat) (C:Bool→Heap→Prop):Ex→Fr→Heap→Prop
 | .ret=>fun _ h=>∃ pd,h.get l=.loop .busy pd fn n tm ps as bd d∧C false (h.set l (.loop .done (some .ret) fn n tm ps as bd d))
 | .exit id=>fun _ h=>∃ pd,h.get l=.loop .busy pd fn n tm ps as bd d∧C false (h.set l (.loop .done (some (.exit id)) fn n tm ps as bd d))
 | _=>fun _ _=>False
def qj8 (P:Program) (E:Env) (l fn n:Nat) (tm:T V) (ps:List Tmp) (as bd:Code) (d:Nat) (C:Bool→Heap→Prop) (N:Nat) (s:Fr) (h:Heap):Prop :=
 ∃ pd,h.get l=.loop .ready pd fn n tm ps as bd d∧Wc P E bd s (h.set l (.loop .busy pd fn n tm ps as bd d)) (yEnd l fn n tm ps as bd d C) (yOut l fn n tm ps as bd d C) N
def noX (_:Ex) (_:Fr) (_:Heap):Prop:=False
def Yx (P:Program) (E:Env) (l:Nat) (args:List V) (h:Heap) (R':Bool→Heap→Prop):Prop :=
 Fine P E→∀ {B:Nat} {w0:World} {g:Gh} {w:World} (c:Frame) (cs:List Frame) (b:Nat) (k:Nat×Nat) (us:Array Value),W B w0 g h w→x9 E.glob g.S→g.vr l=none→g.mu l=some (b,k)→Rs' g us args→∃ v h',R' v h'∧qw7 P B w0 g c cs b us w (.ret (.bool v) h')
theorem Ev.yield {l fn n d:Nat} {tm:T V} {ps:List Tmp} {as bd:Code} {args:List V} {h:Heap} {st:LoopState} {pd0:Option Code} {L0:List (Nat×V)} {C:Bool→Heap→Prop} (ks:List Nat) (L1:List (Nat×V)) (hl:h.get l=.loop st pd0 fn n tm ps as bd d) (hT:TSat n L0 tm) (hp:setL n ps args L0 ks=some L1)
  (hw:Wc P E as ((qk5 fn n l).on L1) h (qj8 P E l fn n tm ps as bd d C h.n) noX h.n):Yx P E l args h C:=by
 intro hF B w0 g w c cs b k us hW hG hv hm hs
 have hobj:=hW.obj l _ hm
 rw [hl] at hobj
 obtain ⟨hz,Lp,h1,h2,h3,h4,h5,h6,h7,h8,h9,h10,kd,h11⟩:=hobj
 unfold setL at hp
 cases hsp:q74 ps n args (mkT n L0) with
 | none=>rw [hsp] at hp;cases hp
 | some t =>
  rw [hsp] at hp
  simp only [Option.some.injEq] at hp
  obtain ⟨tm',htm,hsat⟩:=zp3 ps hT hsp
  have hus:us.toList.length=args.length:=by simpa using hs.1
  obtain ⟨hlen,hslots⟩:=z46 ps us.toList args tm tm' Lp.tmps hus (fun i v x a q=>hs.2 i v x (by simpa using a) q) ⟨h5,h6,hz⟩ htm
  have hround:=run_yield (P:=P) (args:=us) h1 (by rw [hs.1,hlen,← h7];simp)
  have htmps:(Lp.params.zip us).foldl (fun tmps (t,a)=>tmps.setIfInBounds t a) Lp.tmps=(ps.zip us.toList).foldl (fun (t:Array Value) (p:Tmp×Value)=>t.setIfInBounds p.1 p.2) Lp.tmps:=by
   rw [← Array.foldl_toList,Array.toList_zip,h7]
  rw [htmps] at hround
  let bf:Frame:={ (default:Frame) with fn:=fn,kind:=.normal,roundOf:=some b }
  let a:Act:={ tmps:=(ps.zip us.toList).foldl (fun (t:Array Value) (p:Tmp×Value)=>t.setIfInBounds p.1 p.2) Lp.tmps,defers:=[] }
  have hfr0:Frame.round b fn a.tmps as bd .normal=bf.atR a [.code as,.beginRound,.code bd]:=rfl
  have hf0:FrOk g bf ⟨fn,n,tm',[],[],some l,none,false⟩ a:=⟨rfl,hslots,⟨b,k,rfl,hv,hm⟩,q22.nil g⟩
  have hle:Le ((qk5 fn n l).on L1) ⟨fn,n,tm',[],[],some l,none,false⟩:=by
   refine ⟨rfl,rfl,rfl,rfl,rfl,rfl,rfl,fun i hi=>?_,fun i hi=>qo8 n L1 i hi⟩
   change (mkT n L1).get undef i=lost∨(mkT n L1).get undef i=tm'.get undef i
   rcases qx0 n L1 i hi with e | ⟨v,hv',e⟩
   ·exact .inl e
   ·rw [← hp] at hv'
    have:=qu2 hv'
    change v=t.get undef i at this
    subst this
    rcases hsat i hi with q | q
    ·left;rw [e,q]
    ·right;rw [e,q]
  rw [h4,h8,h9] at hround
  obtain ⟨e,s1,hh1,g1,a1,w1,q1,q2,q3,q4,q5⟩:=hw hF a bf [.beginRound,.code bd] (c::cs) hW.domain (Grown.refl _ _) hW hG (hle.ok hf0)
  rw [← hfr0] at q4
  cases e with
  | normal =>
   obtain ⟨pd,hg1,hb⟩:=q5
   obtain ⟨hv1,hm1⟩:=q1.ext.obj _ _ hv hm
   obtain ⟨L1',r1,r2,r3,hW2⟩:=W.setLoop (st':=.busy) (pe':=pd) q2 hv1 hm1 hg1
   have hb1:=run_beginRound (P:=P) r1 r2
   have hL1:({ L1' with state:=.busy,pending:=pd }:Loop)={ L1' with state:=.busy }:=by rw [← r3]
   rw [hL1] at hW2
   have hst2:Steps P (lone (Frame.round b fn a.tmps as bd .normal) (c::cs) w) (lone (bf.atR a1 [.code bd]) (c::cs) _):=Steps.trans q4 (.one (stepR_beginRound (b:=bf) rfl hb1))
   obtain ⟨e2,s2,hh2,g2,a2,w2,t1,t2,t3,t4,t5⟩:=hb hF a1 bf [] (c::cs) hW.domain q1 hW2 hG q3
   obtain ⟨hv2,hm2⟩:=t1.ext.obj _ _ hv hm
   have last:∀ (j:Option Code) (st:LoopState) (pe2:Option Code),hh2.get l=.loop .busy pe2 fn n tm ps as bd d→(st=if j.isNone then .ready else .done)→∃ w',(Instr.endRound b j).run P w2=.ok (.bool j.isNone) w'∧W B w0 g2 (hh2.set l (.loop st j fn n tm ps as bd d)) w':=by
    intro j st pe2 hget2 hst
    obtain ⟨L2,u1,u2,u3,hW3⟩:=W.setLoop (st':=st) (pe':=j) t2 hv2 hm2 hget2
    exact ⟨_,za2 u1 j st hst,hW3⟩
   cases e2 with
   | normal =>
    obtain ⟨pd2,hg2,hC⟩:=t5
    obtain ⟨w',e1,e2⟩:=last none .ready pd2 hg2 rfl
    exact ⟨true,_,hC,g2,w',_,t1,e2,.gnd (.bool _),fn,_,as,bd,hround,hst2.trans (Steps.trans t4 (.one (stepR_round_end (b:=bf) rfl rfl e1)))⟩
   | ret =>
    obtain ⟨pd2,hg2,hC⟩:=t5
    obtain ⟨todo,hA3⟩:=t4
    obtain ⟨w',e1,e2⟩:=last (some .ret) .done pd2 hg2 rfl
    exact ⟨false,_,hC,g2,w',_,t1,e2,.gnd (.bool _),fn,_,as,bd,hround,hst2.trans (Steps.trans hA3 (.one (stepR_round_ret (b:=bf) rfl rfl e1)))⟩
   | exit id =>
    obtain ⟨pd2,hg2,hC⟩:=t5
    obtain ⟨todo,hx,hA3⟩:=t4
    obtain ⟨w',e1,e2⟩:=last (some (.exit id)) .done pd2 hg2 rfl
    exact ⟨false,_,hC,g2,w',_,t1,e2,.gnd (.bool _),fn,_,as,bd,hround,hst2.trans (Steps.trans hA3 (.one (stepR_round_exit (b:=bf) rfl rfl hx e1)))⟩
   | goto _=>exact absurd t5 id
   | panic _=>exact absurd t5 id
  | _=>exact absurd q5 id
noncomputable def zk1 (P:Program) (E:Env) (all:List Oper) (i:Nat) (s:Fr) (h:Heap):Option (Nat×List V×Heap×Option Tmp) :=
 match opAt all i s with
 | none=>none
 | some o=>match q36 (E.lit s.fn) P E.glob s.tm h o with
  | .yield l args h1=>some (l,args,h1,o.dst)
  | _=>none
def qg4 (P:Program) (E:Env) (all:List Oper) (i:Nat) (b:Fr) (L:List (Nat×V)) (d:Option Tmp) (K:Fr→Heap→Prop) (X:Ex→Fr→Heap→Prop) (N:Nat) (v:Bool) (h:Heap):Prop :=
 ∃ ks L',sumP ks ((b.on L).put d (.bool v))=some L'∧Wl P E all (all.drop (i+1)) (b.on L') h K X N
theorem Wl.yieldX {all:List Oper} {b:Fr} {L:List (Nat×V)} {h h1:Heap} {l:Nat} {args:List V} {d:Option Tmp} (i:Nat) (ho:zk1 P E all i (b.on L) h=some (l,args,h1,d)) (hw:Yx P E l args h1 (qg4 P E all i b L d K X N)):Wl P E all (all.drop i) (b.on L) h K X N:=by
 unfold zk1 at ho
 split at ho
 ·cases ho
 ·rename_i o hoa
  split at ho
  ·rename_i l' args' h1' hr
   cases ho
   obtain ⟨e,k2⟩:=qj9 hoa
   rw [e]
   intro hF B w0 g0 g w a bf k cs ops i' e1 e2 hD hg hW hG hf
   obtain ⟨ho',hl'⟩:=z68 e1 e2
   subst e1
   have hgood:=qg9 (P:=P) (E.lit (b.on L).fn) hW hf.slots (hG.mono hg.ext.S) o
   have hr':q36 (E.lit (b.on L).fn) P E.glob (b.on L).tm h o=.yield l args h1:=hr
   have hsem:=qs8 hf (o:=o) (fun hd=>absurd hd (qs2 hr' (by simp) (by simp)))
   rw [hr',← hsem] at hgood
   obtain ⟨us,q,kk,w1,g1,e,hg1,hW1,hv,hm,hs⟩:=hgood
   rw [List.length_cons,List.range'_succ]
   obtain ⟨v,h2,⟨ks',L',hput,hk⟩,g',w',u,hg',hW',hR,fn,tmps,as,bd,he,hst⟩:=hw hF (bf.atR a (.inRegion ops (i'::List.range' (i'+1) (List.drop (i+1) ops.toList).length)::k)) cs q kk us hW1 (hG.mono (hg.trans hg1).ext.S) hv hm hs
   obtain ⟨s1,hp1,hL⟩:=q14 hput
   have hgg:=hg1.trans hg'
   have hk':=hk.weak (((SameB.on b L).trans (.put hp1)).keep hL)
   have hR:=hR.bool_inv
   subst hR
   refine .steps ?_ (hk' hF (a.put o.dst (.bool v)) bf k cs ops (i'+1) rfl hl' hD (hg.trans hgg) hW' hG ((hf.mono hgg.ext).put (.gnd (.bool v)) hp1))
   have hfin:(bf.atR a (.inRegion ops (i'::List.range' (i'+1) (List.drop (i+1) ops.toList).length)::k)).finish (.bool v)=bf.atR (a.put o.dst (.bool v)) (.inRegion ops (List.range' (i'+1) (List.drop (i+1) ops.toList).length)::k):=by rw [Frame.finish_atR,ho'];rfl
   refine .head (qu8 ho' (q35 hf k2) (e.trans he)) ?_
   rw [← hfin];exact hst
  ·cases ho
theorem Wl.yield {all:List Oper} {b:Fr} {L:List (Nat×V)} {h h1:Heap} {l fn n dd:Nat} {tm:T V} {ps:List Tmp} {ag bd:Code} {args:List V} {st:LoopState} {pd0:Option Code} {L0:List (Nat×V)} {d:Option Tmp} (i:Nat) (ks:List Nat) (L1:List (Nat×V)) (hT:TSat n L0 tm) (ho:zk1 P E all i (b.on L) h=some (l,args,h1,d)) (hl:h1.get l=.loop st pd0 fn n tm ps ag bd dd) (hp:setL n ps args L0 ks=some L1)
  (hw:Wc P E ag ((qk5 fn n l).on L1) h1 (qj8 P E l fn n tm ps ag bd dd (qg4 P E all i b L d K X N) h1.n) noX h1.n):Wl P E all (all.drop i) (b.on L) h K X N :=
 Wl.yieldX i ho (Ev.yield ks L1 hl hT hp hw)
theorem rEnd.mk {l fn n d:Nat} {ps:List Tmp} {as bd:Code} {s:Fr} {v:V} {h:Heap} (st:LoopState) (tm:T V) (hg:h.get l=.loop st none fn n tm ps as bd d) (hst:st≠.busy) (hk:K s (h.set l (.loop .exhausted none fn n tm ps as bd d))):rEnd P E l fn n ps as bd d s K X N v h:=⟨st,none,tm,hg,hst,hk⟩
theorem rEnd.mkC {l fn n d:Nat} {ps:List Tmp} {as bd:Code} {s:Fr} {v:V} {h:Heap} (st:LoopState) (c:Code) (tm:T V) (hg:h.get l=.loop st (some c) fn n tm ps as bd d) (hst:st≠.busy) (hk:Wc P E c s (h.set l (.loop .exhausted (some c) fn n tm ps as bd d)) K X N):rEnd P E l fn n ps as bd d s K X N v h:=⟨st,some c,tm,hg,hst,hk⟩
theorem qj8.mk {l fn n d:Nat} {tm:T V} {ps:List Tmp} {as bd:Code} {C:Bool→Heap→Prop} {s:Fr} {h:Heap} (pd:Option Code) (hg:h.get l=.loop .ready pd fn n tm ps as bd d) (hw:Wc P E bd s (h.set l (.loop .busy pd fn n tm ps as bd d)) (yEnd l fn n tm ps as bd d C) (yOut l fn n tm ps as bd d C) N):qj8 P E l fn n tm ps as bd d C N s h:=⟨pd,hg,hw⟩
theorem yEnd.mk {l fn n d:Nat} {tm:T V} {ps:List Tmp} {as bd:Code} {C:Bool→Heap→Prop} {s:Fr} {h:Heap} (pd:Option Code) (hg:h.get l=.loop .busy pd fn n tm ps as bd d) (hC:C true (h.set l (.loop .ready none fn n tm ps as bd d))):yEnd l fn n tm ps as bd d C s h:=⟨pd,hg,hC⟩
theorem yOut.ret {l fn n d:Nat} {tm:T V} {ps:List Tmp} {as bd:Code} {C:Bool→Heap→Prop} {s:Fr} {h:Heap} (pd:Option Code) (hg:h.get l=.loop .busy pd fn n tm ps as bd d) (hC:C false (h.set l (.loop .done (some .ret) fn n tm ps as bd d))):yOut l fn n tm ps as bd d C .ret s h:=⟨pd,hg,hC⟩
theorem qg4.mk {all:List Oper} {i:Nat} {b:Fr} {L:List (Nat×V)} {d:Option Tmp} {v:Bool} {h:Heap} (ks:List Nat) (L':List (Nat×V)) (hp:sumP ks ((b.on L).put d (.bool v))=some L') (hk:Wl P E all (all.drop (i+1)) (b.on L') h K X N):qg4 P E all i b L d K X N v h:=⟨ks,L',hp,hk⟩
def q60 (P:Program) (E:Env) (all:List Oper) (i:Nat) (b:Fr) (L:List (Nat×V)) (d:Option Tmp) (K:Fr→Heap→Prop) (X:Ex→Fr→Heap→Prop) (N:Nat) (v:V) (h:Heap):Prop :=
 ∃ ks L',sumP ks ((b.on L).put d v)=some L'∧Wl P E all (all.drop (i+1)) (b.on L') h K X N
theorem q60.mk {all:List Oper} {i:Nat} {b:Fr} {L:List (Nat×V)} {d:Option Tmp} {v:V} {h:Heap} (ks:List Nat) (L':List (Nat×V)) (hp:sumP ks ((b.on L).put d v)=some L') (hk:Wl P E all (all.drop (i+1)) (b.on L') h K X N):q60 P E all i b L d K X N v h:=⟨ks,L',hp,hk⟩
theorem Wl.callX {all:List Oper} {b:Fr} {L:List (Nat×V)} {h h1:Heap} {f:FuncId} {args:List V} {d:Option Tmp} (i:Nat) (ho:qv6 P E all i (b.on L) h=some (f,args,h1,d)) (hc:Cx P E f args h1 (q60 P E all i b L d K X N)):Wl P E all (all.drop i) (b.on L) h K X N:=by
 unfold qv6 at ho
 split at ho
 ·cases ho
 ·rename_i o hoa
  split at ho
  ·rename_i f' args' h1' hr
   cases ho
   obtain ⟨e,k2⟩:=qj9 hoa
   rw [e]
   refine Wl.cameX k2 hr fun hF _ _ _ _ cs us hW hG hs=>?_
   obtain ⟨v,h',⟨ks,L',hp,hk⟩,hx⟩:=hc hF cs us hW hG hs
   obtain ⟨s1,hp1,hL⟩:=q14 hp
   exact ⟨v,h',⟨s1,hp1,hk.weak (((SameB.on b L).trans (.put hp1)).keep hL)⟩,hx⟩
  ·cases ho
theorem Wl.callI {all:List Oper} {b:Fr} {L:List (Nat×V)} {h h1:Heap} {f:FuncId} {args:List V} {d:Option Tmp} {fn:Func} {body:Code} (i:Nat) (hf:P.funcs[f]?=some fn) (hb:fn.body=some body) (hl:Nat.ble (List.len args) fn.ntmps=true) (ho:qb5 P E all i (b.on L) h=some (f,args,h1,d))
  (hw:Wc P E body (argS f fn.ntmps args) h1 (retX P fn (q60 P E all i b L d K X N)) (z77 P fn (q60 P E all i b L d K X N)) h1.n):Wl P E all (all.drop i) (b.on L) h K X N:=by
 refine Wl.callX i ?_ (Ev.body hf hb hl hw)
 unfold qb5 at ho
 split at ho
 ·cases ho
 ·rename_i f' args' h1' d' hca
  cases hs:(E.shared f'&&!(E.pubRet f')) with
  | false=>rw [hs] at ho;cases ho
  | true =>
   rw [hs] at ho
   cases ho
   exact hca
def qd1:Code→List (Code×Code)
 | .seq a b=>qd1 a++qd1 b
 | .cond _ a b=>qd1 a++qd1 b
 | .block _ b=>qd1 b
 | .loop b=>qd1 b
 | .rangeFunc _ _ as bd=>(as,bd)::qd1 bd
 | .scope b=>qd1 b
 | _=>[]
def rAs (P:Program) (f k:Nat):Code :=
 match P.funcs[f]? with
 | some fn=>(match fn.body with
  | some b=>(match (qd1 b)[k]? with
   | some p=>p.1
   | none=>.skip)
  | none=>.skip)
 | none=>.skip
def rBd (P:Program) (f k:Nat):Code :=
 match P.funcs[f]? with
 | some fn=>(match fn.body with
  | some b=>(match (qd1 b)[k]? with
   | some p=>p.2
   | none=>.skip)
  | none=>.skip)
 | none=>.skip
end Go.AM
namespace Go.AM
open Go.RowKit Go.ChangeShapes Go.WideShapes
variable {P:Program} {E:Env}
theorem zp7 (hN:qk4 P) (hP:q86 P E) {f:FuncId} {fn:Func} {body:Code} {gs:List V} (hf:P.funcs[f]?=some fn) (hb:fn.body=some body) (hr:Cx P E f gs Heap.empty (fun v _=>v=.bool true)) {W:World} {us:Array Value} (hG:x9 E.glob (z00 W)) (hs:Rs' (Gh.data (z00 W)) us gs) :
  Calls P f us W fun e W'=>e=.returned (.bool true)∧Below W.heap.size W W':=by
 intro cs
 obtain ⟨v,h',rfl,g',w',u,_,hW,hR,hret⟩:=hr ⟨hP,hN⟩ cs us (AM.W.start (xq3 W)) hG hs
 have:=hR.bool_inv;subst this
 rcases hret with h | ⟨_,fr,h1,h2,h3⟩
 ·rw [qg1 hN hf hb] at h;cases h
 ·exact ⟨.returned (.bool true),w',fr,⟨rfl,hW.low⟩,h1,h2,h3⟩
theorem xu7 {g:Gh}:Rs' g #[] []:=⟨rfl,fun i v x a _=>by simp at a⟩
theorem qk2 {g:Gh} {v:Value} {x:V} {us:List Value} {xs:List V} (h:R g v x) (hs:Rs' g us.toArray xs):Rs' g (v::us).toArray (x::xs):=by
 refine ⟨by have:=hs.1;simp at this ⊢;exact this,fun i u y a b=>?_⟩
 cases i with
 | zero=>simp at a b;subst a;subst b;exact h
 | succ i=>exact hs.2 i u y (by simpa using a) (by simpa using b)
theorem j34 {g:Gh} (s:ByteArray):R g (.string s) (.str s.data.toList):=.gnd (.str rfl)
theorem xc6 {g:Gh} (k:IntKind) (n:Int):R g (.int k n) (.int k n):=.gnd (.int k n)
def bV (b:UInt8):V:=.int .u8 (b.toNat:Int)
def Bs (x:V) (l:List UInt8):Prop:=(x=.nils∧l=[])∨x=.gsl 1 (l.map bV) none
theorem x95 {zs:List Int} (hw:∀ n∈zs,(Lit.int .u8 n).wf=true):∃ l:List UInt8,zs.map (V.int .u8)=l.map bV:=by
 refine ⟨zs.map fun n=>UInt8.ofNat n.toNat,?_⟩
 rw [List.map_map]
 refine List.map_congr_left fun n hn=>?_
 have:=bounds_u8 (hw n hn)
 show V.int .u8 n=V.int .u8 ((UInt8.ofNat n.toNat).toNat:Int)
 rw [UInt8.toNat_ofNat',Nat.mod_eq_of_lt (by omega)]
 congr 1;omega
theorem j14 {W:World} {b off len cap:Nat} {zs:List Int} (hl:len≤cap) (hz:zs.length=cap) (hcell:∀ i,i<zs.length→W.cell? ⟨b,off+i,none⟩=some (.int .u8 (zs.getD i 0))):R (Gh.data (z00 W)) (.slice (some ⟨b,off,none⟩) len cap) (.gsl 1 ((zs.take len).map (V.int .u8)) none):=by
 have hlen:((zs.take len).map (V.int .u8)).length=len:=by simp;omega
 have hel:∀ (i:Nat) e,((zs.take len).map (V.int .u8))[i]?=some e→i<zs.length∧e=.int .u8 (zs.getD i 0):=by
  intro i e he
  have hi:i<len:=by have:=q9 he;omega
  refine ⟨by omega,?_⟩
  rw [List.getElem?_map,List.getElem?_take_of_lt hi] at he
  rw [List.getD_eq_getElem?_getD]
  cases hq:zs[i]? with
  | none=>rw [hq] at he;cases he
  | some z=>rw [hq] at he;cases he;rfl
 have:=GR.gsl (S:=z00 W) (b:=b) (off:=off) (sz:=1) (cap:=cap) (c:=none) (es:=(zs.take len).map (V.int .u8)) (fun i _=>.int .u8 (zs.getD i 0)) Nat.one_pos
  (fun i e he=>by obtain ⟨_,rfl⟩:=hel i e he;exact ⟨rfl,rfl⟩)
  (fun i e j x he hx=>by
   obtain ⟨hi,rfl⟩:=hel i e he
   cases j with
   | zero=>exact ⟨by rw [Nat.mul_one,Nat.add_zero];exact hcell i hi,rfl⟩
   | succ j=>simp [V.cells] at hx)
  (fun _ e=>by cases e) (by omega)
  (fun i e j x he hx=>by
   obtain ⟨hi,rfl⟩:=hel i e he
   cases j with
   | zero=>simp [V.cells] at hx;subst hx;exact .int _ _
   | succ j=>simp [V.cells] at hx)
 rw [hlen] at this
 exact .gnd this
section
variable {H:Type} {enc:TypeId×Value→H}
theorem zp0 {w:World} {r:Reach} {base:Nat} {t e:TypeId} {v:Value} (ht:P.underlying t=some (.slice e)) (h:Value.okWide P w r base t v):v=.slice none 0 0∨∃ a len cap,v=.slice (some a) len cap∧a.spot=none:=by
 simp only [Value.okWide,ht,Cell.okWide] at h
 unfold Cell.ok at h
 rw [ht] at h
 split at h <;> simp_all
 exact h.2.2.2.1
theorem xb5 {W:World} {r:Reach} {b0:Nat} {t e:TypeId} {v:Value} {d:DataW H} {ps:List MemPlace} (ht:P.underlying t=some (.slice e)) (he:P.underlying e=some (.int .u8)) (hc:P.cellsOf e=1)
  (hval:Value.okWide P W r b0 t v) (hd:DataW.Trod enc P W 0 (fun _=>true) true t v d ps) :
  (∃ x l,Bs x l∧R (Gh.data (z00 W)) v x)∧∀ W',Below W.heap.size W W'→∃ ps',DataW.Trod enc P W' 0 (fun b=>decide (b<W.heap.size)) true t v d ps':=by
 obtain ⟨fuel,hf⟩:=hd
 rcases zp0 ht hval with rfl | ⟨a,len,cap,rfl,hsp⟩
 ·refine ⟨⟨.nils,[],.inl ⟨rfl,rfl⟩,.gnd .nils⟩,fun W' hb=>⟨[],1,?_⟩⟩
  rcases open_ints ht he hc hf with ⟨_,e2⟩ | ⟨a,len,cap,zs,e1,_⟩
  ·cases e2
   simp [DataW.trod,Value.cells,ht]
  ·simp [Value.cells] at e1
 ·rcases open_ints ht he hc hf with ⟨e1,_⟩ | ⟨a',len',cap',zs,e1,_,hl,hm,hz,e2,hcell,hw⟩
  ·simp [Value.cells] at e1
  ·simp only [Value.cells,List.cons.injEq,Value.slice.injEq,Option.some.injEq,and_true] at e1
   obtain ⟨rfl,rfl,rfl⟩:=e1
   obtain ⟨b,off,spot⟩:=a
   simp only at hsp;subst hsp
   simp only [if_true] at hz
   have hcell':∀ i,i<zs.length→W.cell? ⟨b,off+i,none⟩=some (.int .u8 (zs.getD i 0)):=fun i hi=>by rw [← add_plain];exact hcell i hi
   refine ⟨?_,fun W' hb=>?_⟩
   ·obtain ⟨l,hl'⟩:=x95 (zs:=zs.take len) fun n hn=>hw n (List.mem_of_mem_take hn)
    refine ⟨_,l,.inr rfl,?_⟩
    rw [← hl']
    exact j14 hl hz hcell'
   ·simp only [Prod.mk.injEq] at e2
    obtain ⟨rfl,rfl⟩:=e2
    have hblk:0<zs.length→b<W.heap.size:=fun h0=>by
     have:=hcell' 0 h0
     unfold World.cell? at this
     rcases Nat.lt_or_ge b W.heap.size with h | h
     ·exact h
     ·simp [Array.getElem?_eq_none h] at this
    refine ⟨_,2,shut_ints' 0 ht he hc (Nat.zero_le _) hl hm ?_ (fun i hi=>?_) hw⟩
    ·by_cases hb':b<W.heap.size
     ·simp only [decide_eq_true hb',if_true];exact hz
     ·have:zs.length=0:=by
       rcases Nat.eq_zero_or_pos zs.length with h | h
       ·exact h
       ·exact absurd (hblk h) hb'
      split <;> omega
    ·have:=hblk (by omega)
     rw [← hcell' i hi]
     exact hb.cell (p:=⟨b,off+i,none⟩) this
end
end Go.AM
namespace Go.AM
open Go.RowKit
variable {P:Program} {E:Env} {K:Fr→Heap→Prop} {X:Ex→Fr→Heap→Prop} {N:Nat}
structure Vw (N:Nat) (s:Fr) (h:Heap) (s':Fr) (h':Heap):Prop where
 of:∀ {B:Nat} {w0 w:World} {g0 g:Gh} {b:Frame} {a:Act},Dom N g0→Grown B g0 g→W B w0 g h w→FrOk g b s a→∃ g',Grown B g0 g'∧W B w0 g' h' w∧FrOk g' b s' a
theorem Vw.le {s s':Fr} {h:Heap} (hl:Le s' s):Vw N s h s' h:=⟨fun _ hg hW hf=>⟨_,hg,hW,hl.ok hf⟩⟩
theorem Vw.trans {s1 s2 s3:Fr} {h1 h2 h3:Heap} (p:Vw N s1 h1 s2 h2) (q:Vw N s2 h2 s3 h3):Vw N s1 h1 s3 h3:=⟨fun hD hg hW hf=>by
 obtain ⟨g1,a1,a2,a3⟩:=p.of hD hg hW hf
 exact q.of hD a1 a2 a3⟩
theorem Wc.view {c:Code} {s s':Fr} {h h':Heap} (hv:Vw N s h s' h') (hw:Wc P E c s' h' K X N):Wc P E c s h K X N:=fun hF _ _ _ _ _ a b k cs hD hg hW hG hf=>by
 obtain ⟨g',q1,q2,q3⟩:=hv.of hD hg hW hf
 exact hw hF a b k cs hD q1 q2 hG q3
theorem Wl.view {all l:List Oper} {s s':Fr} {h h':Heap} (hv:Vw N s h s' h') (hw:Wl P E all l s' h' K X N):Wl P E all l s h K X N:=fun hF _ _ _ _ _ a b k cs ops i e1 e2 hD hg hW hG hf=>by
 obtain ⟨g',q1,q2,q3⟩:=hv.of hD hg hW hf
 exact hw hF a b k cs ops i e1 e2 hD q1 q2 hG q3
theorem Wc.loopV {α:Type} {b:Code} {s:Fr} {h:Heap} (S:α→Fr) (H:α→Heap) (I:α→Prop) (μ:α→Nat) (a0:α) (hs0:Vw N s h (S a0) (H a0)) (hI0:I a0)
  (hb:∀ a,I a→Wc P E b (S a) (H a) (fun s h=>∃ a',Vw N s h (S a') (H a')∧I a'∧μ a'<μ a) X N):Wc P E (.loop b) s h K X N:=by
 refine .view hs0 ?_
 intro hF B w0 g0 g w ac fr k cs hD hg hW hG hf
 refine .steps (.one stepR_loop) ?_
 have key:∀ (n:Nat) (x:α),μ x=n→I x→∀ {g:Gh} {w:World} (ac:Act),Grown B g0 g→W B w0 g (H x) w→FrOk g fr (S x) ac→Ends P K X B w0 g0 fr k cs (lone (fr.atR ac (.code b::.inLoop b::k)) cs w):=by
  intro n
  induction n using Nat.strongRecOn with
  | _ n IH =>
   intro x hx hI g w ac hg hW hf
   refine .pass (x:=.inLoop b) (fun _=>rfl) (hb x hI hF ac fr (.inLoop b::k) cs hD hg hW hG hf) fun s1 h1 g1 a1 w1 q1 q2 q3 q4=>?_
   obtain ⟨x',hv,hI',hm⟩:=q4
   obtain ⟨g2,r1,r2,r3⟩:=hv.of hD q1 q2 q3
   exact .steps (.one stepR_inLoop) (IH (μ x') (by omega) x' rfl hI' a1 r1 r2 r3)
 exact key _ a0 rfl hI0 ac hg hW hf
def Wk (x x':V):Prop:=∀ (g:Gh) (v:Value),R g v x→R g v x'
theorem Wk.refl (x:V):Wk x x:=fun _ _ h=>h
theorem Wk.trans {x y z:V} (p:Wk x y) (q:Wk y z):Wk x z:=fun g v h=>q g v (p g v h)
theorem Wk.nils (sz:Nat):Wk .nils (.osl sz []):=fun g v h=>by have:=h.nils_inv;subst this;exact .gnd .oslN
theorem Wk.gsl {sz:Nat} {es:List V} {c:Option Nat}:Wk (.gsl sz es c) (.osl sz es):=fun g v h=>by
 have:=h.gsl_inv
 cases this with
 | gsl val hsz hc hS hcap hle hh=>exact .gnd (.oslS (.gsl val hsz hc hS (fun _ e=>by cases e) hle hh))
theorem Wk.agg {xs ys:List V} (hn:xs.length=ys.length) (h:∀ (i:Nat) x y,xs[i]?=some x→ys[i]?=some y→Wk x y):Wk (.agg xs) (.agg ys):=fun g v hR=>by
 obtain ⟨cs,rfl,h1,h2,h3⟩:=hR.agg_inv
 refine .agg (h1.trans hn) h2 fun i v y p q=>?_
 obtain ⟨x,hx⟩:=z9 xs i (by rw [hn];exact q9 q)
 exact h i x y hx q g v (h3 i v x p hx)
structure Wke (e e':V):Prop where
 len:e'.cells.length=e.cells.length
 flat:e'.flat=true
 cells:∀ (j:Nat) x x',e.cells[j]?=some x→e'.cells[j]?=some x'→Wk x x'
theorem Wke.refl {e:V} (h:e.flat=true):Wke e e:=⟨rfl,h,fun j x x' p q=>by rw [p] at q;cases q;exact .refl _⟩
theorem Vw.row {s:Fr} {h:Heap} (r:Nat) {ver ty sz pub:Nat} {cap:Option Nat} {es:List V} (es':List V) (hg:h.get r=.row ver ty sz pub cap es) (hp:pub≤es'.length) (hl:es'.length≤es.length) (hw:∀ (i:Nat) e e',es[i]?=some e→es'[i]?=some e'→Wke e e'):Vw N s h s (h.set r (.row ver ty sz pub cap es')):=by
 refine ⟨fun _ hg0 hW hf=>?_⟩
 obtain ⟨hv,b,k,C,fr,hm,hrow,_⟩:=hW.row hg
 refine ⟨_,hg0,?_,hf⟩
 have hr:r<h.n:=by
  rcases Nat.lt_or_ge r h.n with q | q
  ·exact q
  ·have:=(hW.out r q).2;rw [this] at hg;cases hg
 refine ⟨hW.low,hW.base,hW.shut,hW.dom,fun q hq=>?_,fun q=>?_,fun q x hx=>?_,hW.inj,hW.high⟩
 ·rw [Heap.get_set,if_neg (by rw [Heap.n_set] at hq;omega)]
  exact hW.out q hq
 ·rw [Heap.get_set]
  by_cases e:r=q
  ·subst e;rw [if_pos rfl,hv]
  ·rw [if_neg e];exact hW.ver q
 ·rw [Heap.get_set]
  by_cases e:r=q
  ·subst e
   rw [if_pos rfl]
   rw [hm] at hx;cases hx
   refine ⟨rfl,C,fr,hrow.at_,hrow.csize,hrow.pos,Nat.le_trans hl hrow.fits,hp,hrow.caps,fun i e' he'=>?_,fun i e' j x' he' hx'=>?_,hrow.shut,hrow.ice⟩
   ·obtain ⟨e,he⟩:=z9 es i (Nat.lt_of_lt_of_le (q9 he') hl)
    obtain ⟨a1,a2,_⟩:=hw i e e' he he'
    exact ⟨a1.trans (hrow.elems i e he).1,a2⟩
   ·obtain ⟨e,he⟩:=z9 es i (Nat.lt_of_lt_of_le (q9 he') hl)
    obtain ⟨a1,_,a3⟩:=hw i e e' he he'
    obtain ⟨x,hx⟩:=z9 e.cells j (by rw [← a1];exact q9 hx')
    obtain ⟨v,p1,p2,p3⟩:=hrow.cells i e j x he hx
    exact ⟨v,p1,p2,a3 j x x' hx hx' _ _ p3⟩
  ·rw [if_neg e];exact hW.obj q x hx
abbrev Ren:=List (Nat×Bool)
noncomputable def xd4 (ρ:Ren) (r:Nat):Option Nat:=List.rec (motive:=fun _=>Nat→Option Nat) (fun _=>none) (fun p _ ih j=>bif Nat.beq p.1 r then some j else ih (Nat.succ j)) ρ 0
noncomputable def verN (N j ver:Nat):Nat:=bif Nat.blt j N then ver else 0
noncomputable def renP (N:Nat) (ρ:Ren) (h:Heap) (r ver:Nat) (k:Nat→Nat→V):V :=
 match xd4 ρ r with
 | none=>.any
 | some j=>match h.get r with
  | .row ver' _ _ _ _ _=>k j (verN N j ver')
  | _=>.any
noncomputable def oldP (ρ:Ren) (h:Heap) (r ver:Nat):List Prop :=
 match xd4 ρ r with
 | none=>[]
 | some _=>match h.get r with
  | .row ver' _ _ _ _ _=>[ver=ver']
  | _=>[]
noncomputable def oldL (f:V→List Prop) (l:List V):List Prop:=List.rec [] (fun v _ ih=>List.app (f v) ih) l
noncomputable def oldV (ρ:Ren) (h:Heap) (d:Nat):V→List Prop :=
 Nat.rec (motive:=fun _=>V→List Prop) (fun _=>[]) (fun _ ih v=>match v with
  | .ptr r ver _=>oldP ρ h r ver
  | .sl r ver _ _ _=>oldP ρ h r ver
  | .agg vs=>oldL ih vs
  | .tup vs=>oldL ih vs
  | .iface _ x=>ih x
  | .func _ a b=>List.app (oldL ih a) (oldL ih b)
  | _=>[]) d
noncomputable def renV (N:Nat) (ρ:Ren) (h:Heap) (d:Nat):V→Option V :=
 Nat.rec (motive:=fun _=>V→Option V) (fun _=>none) (fun _ ih v=>match v with
  | .int a b=>some (.int a b)
  | .bool b=>some (.bool b)
  | .str s=>some (.str s)
  | .nilp=>some .nilp
  | .nils=>some .nils
  | .nilm=>some .nilm
  | .nilf=>some .nilf
  | .nili=>some .nili
  | .gsl a b c=>some (.gsl a b c)
  | .osl a b=>some (.osl a b)
  | .gptr a b c=>some (.gptr a b c)
  | .imod a b c=>some (.imod a b c)
  | .any=>some .any
  | .ptr r ver off=>some (renP N ρ h r ver fun j v=>.ptr j v off)
  | .sl r ver o n c=>some (renP N ρ h r ver fun j v=>.sl j v o n c)
  | .agg vs=>(match mapO ih vs with
   | some l=>some (.agg l)
   | none=>none)
  | .tup vs=>(match mapO ih vs with
   | some l=>some (.tup l)
   | none=>none)
  | .iface t x=>(match ih x with
   | some y=>some (.iface t y)
   | none=>none)
  | .func f a b=>(match f with
   | .func _=>(match mapO ih a with
    | some a'=>(match mapO ih b with
     | some b'=>some (.func f a' b')
     | none=>none)
    | none=>none)
   | _=>none)
  | _=>none) d
structure RenOk (N:Nat) (ρ:Ren) (h:Heap) (g g':Gh):Prop where
 S:g'.S=g.S
 mu:∀ j p,ρ[j]?=some p→g'.mu j=g.mu p.1
 vr:∀ j p v,ρ[j]?=some p→g.vr p.1=some v→g'.vr j=some (verN N j v)
 ver:∀ r,g.vr r=match h.get r with | .row v _ _ _ _ _=>some v | _=>none
theorem xf7 {ρ:Ren} {r j:Nat} (h:xd4 ρ r=some j):∃ p,ρ[j]?=some p∧p.1=r:=by
 have key:∀ (ρ:Ren) (k:Nat),(List.rec (motive:=fun _=>Nat→Option Nat) (fun _=>none) (fun p _ ih j=>bif Nat.beq p.1 r then some j else ih (Nat.succ j)) ρ k:Option Nat)=some j→k≤j∧∃ p,ρ[j-k]?=some p∧p.1=r:=by
  intro ρ
  induction ρ with
  | nil=>intro k h;cases h
  | cons p ρ IH =>
   intro k h
   change (bif Nat.beq p.1 r then some k else (List.rec (motive:=fun _=>Nat→Option Nat) (fun _=>none) (fun p _ ih j=>bif Nat.beq p.1 r then some j else ih (Nat.succ j)) ρ (Nat.succ k):Option Nat))=some j at h
   cases hb:Nat.beq p.1 r with
   | true =>
    rw [hb] at h;cases h
    rw [Nat.beq_eq] at hb
    exact ⟨Nat.le_refl _,p,by simp,hb⟩
   | false =>
    rw [hb] at h
    obtain ⟨h1,q,h2,h3⟩:=IH _ h
    refine ⟨by omega,q,?_,h3⟩
    obtain ⟨m,rfl⟩:∃ m,j=k+1+m:=⟨j-(k+1),by omega⟩
    rw [show k+1+m-Nat.succ k=m by omega] at h2
    rw [show k+1+m-k=m+1 by omega]
    simpa using h2
 obtain ⟨_,p,h1,h2⟩:=key ρ 0 h
 exact ⟨p,h1,h2⟩
theorem qr1 {a b:List Prop} (h:Alls (List.app a b)):Alls a∧Alls b:=by rw [List.app_eq] at h;exact Alls.app h
theorem qe9 {f:V→List Prop} {l:List V} (h:Alls (oldL f l)):∀ x,x∈l→Alls (f x):=by
 induction l with
 | nil=>intro x hx;cases hx
 | cons y l IH =>
  have h:Alls (List.app (f y) (oldL f l)):=h
  obtain ⟨h1,h2⟩:=qr1 h
  intro x hx
  rcases List.mem_cons.1 hx with rfl | hx
  ·exact h1
  ·exact IH h2 x hx
theorem zy4 {N:Nat} {ρ:Ren} {h:Heap} {g g':Gh} (hr:RenOk N ρ h g g') {r ver ver':Nat} {v:Value} {k:Nat→Nat→V} (hφ:Alls (oldP ρ h r ver)) (hv:g.vr r=some ver') (ho:v.oneCell'=true) (hk:∀ j v',ver=ver'→g'.vr j=some v'→g'.mu j=g.mu r→R g' v (k j v')):R g' v (renP N ρ h r ver k):=by
 unfold renP
 unfold oldP at hφ
 split
 ·exact .any ho
 ·rename_i j hp
  rw [hp] at hφ
  obtain ⟨p,h1,rfl⟩:=xf7 hp
  split
  ·rename_i ver2 a1 a2 a3 a4 a5 hg
   rw [hg] at hφ
   have hb:ver=ver2:=hφ.1
   have:=hr.ver p.1
   rw [hg,hv] at this
   cases this
   exact hk _ _ hb (hr.vr j p _ h1 hv) (hr.mu j p h1)
  ·exact .any ho
theorem x09 {N:Nat} {ρ:Ren} {h:Heap} {g g':Gh} (hr:RenOk N ρ h g g') (d:Nat):∀ {v:Value} {x y:V},Alls (oldV ρ h d x)→R g v x→renV N ρ h d x=some y→R g' v y:=by
 induction d with
 | zero=>intro v x y _ _ h;cases h
 | succ d IH =>
  intro v x y hφ hR hy
  have lst:∀ {xs ys:List V} {us:Array Value},(∀ x,x∈xs→Alls (oldV ρ h d x))→mapO (renV N ρ h d) xs=some ys→us.size=xs.length→(∀ (i:Nat) v x,us[i]?=some v→xs[i]?=some x→R g v x)→us.size=ys.length∧∀ (i:Nat) v x,us[i]?=some v→ys[i]?=some x→R g' v x:=by
   intro xs ys us hx' hm hs hR
   obtain ⟨p1,p2⟩:=q95 hm
   refine ⟨by rw [hs,p1],fun i v y a c=>?_⟩
   obtain ⟨x,hx⟩:=z9 xs i (by rw [← p1];exact q9 c)
   obtain ⟨y',hy',hf⟩:=p2 i x hx
   rw [c] at hy';cases hy'
   exact IH (hx' x (List.mem_of_getElem? hx)) (hR i v x a hx) hf
  have dat:GR g.S v x→R g' v x:=fun hg=>.gnd (by rw [hr.S];exact hg)
  cases x with
  | int a c=>cases hy;have:=hR.int_inv;subst this;exact .gnd (.int _ _)
  | bool b=>cases hy;have:=hR.bool_inv;subst this;exact .gnd (.bool _)
  | str s=>cases hy;obtain ⟨s,rfl,h⟩:=hR.str_inv;exact .gnd (.str h)
  | nilp=>cases hy;have:=hR.nilp_inv;subst this;exact .gnd .nilp
  | nils=>cases hy;have:=hR.nils_inv;subst this;exact .gnd .nils
  | nilm=>cases hy;have:=hR.nilm_inv;subst this;exact .gnd .nilm
  | nilf=>cases hy;have:=hR.nilf_inv;subst this;exact .gnd .nilf
  | nili=>cases hy;have:=hR.nili_inv;subst this;exact .gnd .nili
  | gsl a b c=>cases hy;exact dat hR.gsl_inv
  | osl a b=>cases hy;exact dat (by cases hR with | gnd h=>exact h)
  | gptr a b c=>cases hy;exact dat hR.gptr_inv
  | imod a b c=>cases hy;obtain ⟨N',rfl,h1,h2⟩:=hR.imod_inv;exact .imod h1 h2
  | any=>cases hy;exact .any hR.any_inv
  | ptr r ver off =>
   cases hy
   obtain ⟨a,ver',rfl,hv,hle,hp⟩:=hR.ptr_inv
   refine zy4 hr hφ hv rfl fun j v' e hv' hm'=>?_
   obtain ⟨k,sz,h1,h2,h3⟩:=hp e
   exact .ptr hv' (Nat.le_refl _) fun _=>⟨k,sz,hm'.trans h1,h2,h3⟩
  | sl r ver o n c =>
   cases hy
   obtain ⟨a,cap,ver',rfl,hv,hle,hn,hc,hp⟩:=hR.sl_inv
   refine zy4 hr hφ hv rfl fun j v' e hv' hm'=>?_
   obtain ⟨k,sz,h1,h2⟩:=hp e
   exact .sl hv' (Nat.le_refl _) hn hc fun _=>⟨k,sz,hm'.trans h1,h2⟩
  | agg vs =>
   change (match mapO (renV N ρ h d) vs with | some l=>some (V.agg l) | none=>none)=some y at hy
   split at hy
   ·rename_i l hl
    cases hy
    obtain ⟨cs,rfl,h1,h2,h3⟩:=hR.agg_inv
    obtain ⟨q1,q2⟩:=lst (qe9 hφ) hl h1 h3
    exact .agg q1 h2 q2
   ·cases hy
  | tup vs =>
   change (match mapO (renV N ρ h d) vs with | some l=>some (V.tup l) | none=>none)=some y at hy
   split at hy
   ·rename_i l hl
    cases hy
    obtain ⟨cs,rfl,h1,h3⟩:=hR.tup_inv
    obtain ⟨q1,q2⟩:=lst (qe9 hφ) hl h1 h3
    exact .tup q1 q2
   ·cases hy
  | iface t x =>
   change (match renV N ρ h d x with | some y=>some (V.iface t y) | none=>none)=some y at hy
   split at hy
   ·rename_i y' hy'
    cases hy
    obtain ⟨u,rfl,hu⟩:=hR.iface_inv
    exact .iface (IH hφ hu hy')
   ·cases hy
  | func f a b =>
   cases f with
   | func f =>
    change (match mapO (renV N ρ h d) a with | some a'=>(match mapO (renV N ρ h d) b with | some b'=>some (V.func (.func f) a' b') | none=>none) | none=>none)=some y at hy
    split at hy
    ·rename_i a' ha
     split at hy
     ·rename_i b' hb
      cases hy
      obtain ⟨c,e,rfl,h1,h2,h3,h4⟩:=hR.func_inv (fun l=>by simp)
      obtain ⟨p1,p2⟩:=qr1 hφ
      obtain ⟨q1,q2⟩:=lst (qe9 p1) ha h1 h3
      obtain ⟨q3,q4⟩:=lst (qe9 p2) hb h2 h4
      exact .func (fun l=>by simp) q1 q3 q2 q4
     ·cases hy
    ·cases hy
   | _=>cases hy
  | _=>cases hy
noncomputable def renE (N:Nat) (ρ:Ren) (h:Heap) (e:V):Option V :=
 match e with
 | .agg vs=>(match mapO (renV N ρ h 4) vs with
  | some l=>some (.agg l)
  | none=>none)
 | .tup _=>none
 | .fsl _ _ _ _ _=>none
 | e=>renV N ρ h 4 e
noncomputable def oldE (ρ:Ren) (h:Heap) (e:V):List Prop :=
 match e with
 | .agg vs=>oldL (oldV ρ h 4) vs
 | e=>oldV ρ h 4 e
noncomputable def renO (N:Nat) (ρ:Ren) (h:Heap) (j:Nat) (p:Nat×Bool):Option Obj :=
 match h.get p.1 with
 | .row ver ty sz pub cap es=>bif p.2 then some (.row (verN N j ver) ty sz pub cap es) else
  (match mapO (renE N ρ h) es with
  | some es'=>some (.row (verN N j ver) ty sz pub cap es')
  | none=>none)
 | .siter s pos=>some (.siter s pos)
 | .dead=>some .dead
 | _=>none
noncomputable def oldO (ρ:Ren) (h:Heap) (p:Nat×Bool):List Prop :=
 match h.get p.1 with
 | .row _ _ _ _ _ es=>bif p.2 then [∀ e,e∈es→x2 (x4 3) e.cells=true] else oldL (oldE ρ h) es
 | _=>[]
noncomputable def zf3 (N:Nat) (ρ:Ren) (h:Heap) (l:Ren):Nat→Option (List Obj) :=
 List.rec (motive:=fun _=>Nat→Option (List Obj)) (fun _=>some []) (fun p _ ih j=>match renO N ρ h j p with
  | none=>none
  | some o=>match ih (Nat.succ j) with
   | none=>none
   | some os=>some (o::os)) l
noncomputable def oldA (ρ:Ren) (h:Heap) (l:Ren):List Prop:=List.rec [] (fun p _ ih=>List.app (oldO ρ h p) ih) l
noncomputable def oldS (ρ:Ren) (h:Heap) (L:List (Nat×V)):List Prop:=List.rec [] (fun p _ ih=>List.app (oldV ρ h 5 p.2) ih) L
noncomputable def z85 (N n:Nat) (l:Ren):Nat→List Nat→Bool :=
 List.rec (motive:=fun _=>Nat→List Nat→Bool) (fun j _=>Nat.ble N j) (fun p _ ih j seen=>bif (bif Nat.blt j N then Nat.beq p.1 j&&!p.2 else true)&&!(memN p.1 seen)&&Nat.blt p.1 n then ih (Nat.succ j) (p.1::seen) else false) l
noncomputable def renL (N:Nat) (ρ:Ren) (h:Heap) (L:List (Nat×V)):Option (List (Nat×V)) :=
 List.rec (some []) (fun p _ ih=>match renV N ρ h 5 p.2 with
  | none=>none
  | some y=>match ih with
   | none=>none
   | some l=>some ((p.1,y)::l)) L
theorem x97 {N n:Nat} (l:Ren):∀ (j:Nat) (seen:List Nat),z85 N n l j seen=true→N≤j+l.length∧(∀ (i:Nat) (p:Nat×Bool),l[i]?=some p→p.1<n∧¬ p.1∈seen∧(j+i<N→p.1=j+i∧p.2=false))∧(∀ (i i':Nat) (p p':Nat×Bool),l[i]?=some p→l[i']?=some p'→p.1=p'.1→i=i'):=by
 induction l with
 | nil =>
  intro j seen h
  change Nat.ble N j=true at h
  rw [Nat.ble_eq] at h
  exact ⟨by simpa using h,fun i p e=>by simp at e,fun i i' p p' e=>by simp at e⟩
 | cons p l IH =>
  intro j seen h
  change (bif (bif Nat.blt j N then Nat.beq p.1 j&&!p.2 else true)&&!(memN p.1 seen)&&Nat.blt p.1 n then z85 N n l (Nat.succ j) (p.1::seen) else false)=true at h
  cases hb:((bif Nat.blt j N then Nat.beq p.1 j&&!p.2 else true)&&!(memN p.1 seen)&&Nat.blt p.1 n) with
  | false=>rw [hb] at h;cases h
  | true =>
   rw [hb] at h
   simp only [Bool.and_eq_true,Bool.not_eq_true',Nat.blt_eq] at hb
   obtain ⟨⟨h1,h2⟩,h3⟩:=hb
   obtain ⟨a1,a2,a3⟩:=IH _ _ h
   have hns:¬ p.1∈seen:=fun q=>by rw [← z01,h2] at q;cases q
   refine ⟨by simp only [List.length_cons];omega,fun i q e=>?_,fun i i' q q' e e' hq=>?_⟩
   ·cases i with
    | zero =>
     simp at e;subst e
     refine ⟨h3,hns,fun hj=>?_⟩
     have:Nat.blt j N=true:=by rw [Nat.blt_eq];simpa using hj
     rw [this] at h1
     simpa using h1
    | succ i =>
     obtain ⟨b1,b2,b3⟩:=a2 i q (by simpa using e)
     exact ⟨b1,fun q=>b2 (by simp [q]),fun hj=>by have:=b3 (by omega);exact ⟨by omega,this.2⟩⟩
   ·cases i with
    | zero =>
     cases i' with
     | zero=>rfl
     | succ i' =>
      simp at e;subst e
      exact absurd (by rw [← hq];simp) (a2 i' q' (by simpa using e')).2.1
    | succ i =>
     cases i' with
     | zero =>
      simp at e';subst e'
      exact absurd (by rw [hq];simp) (a2 i q (by simpa using e)).2.1
     | succ i'=>rw [a3 i i' q q' (by simpa using e) (by simpa using e') hq]
noncomputable def hpF (l:List Obj):Heap→Heap:=List.rec (motive:=fun _=>Heap→Heap) (fun h=>h) (fun o _ ih h=>ih (h.new o)) l
theorem j97 (l:List Obj):∀ h:Heap,(hpF l h).n=h.n+l.length:=by
 induction l with
 | nil=>intro h;rfl
 | cons o l IH =>
  intro h
  change (hpF l (h.new o)).n=_
  rw [IH,Heap.n_new,List.length_cons];omega
theorem xx6 (l:List Obj):∀ (h:Heap) (r:Nat),(hpF l h).get r=if h.n≤r∧r<h.n+l.length then l.getD (r-h.n) .dead else h.get r:=by
 induction l with
 | nil =>
  intro h r
  rw [if_neg (by simp)];rfl
 | cons o l IH =>
  intro h r
  change (hpF l (h.new o)).get r=_
  rw [IH,Heap.n_new,Heap.get_new,List.length_cons]
  by_cases h1:h.n+1≤r∧r<h.n+1+l.length
  ·rw [if_pos h1,if_pos (by omega),show r-h.n=(r-(h.n+1))+1 by omega];rfl
  ·rw [if_neg h1]
   by_cases h2:h.n=r
   ·subst h2
    rw [if_pos rfl,if_pos (by omega),Nat.sub_self];rfl
   ·rw [if_neg h2,if_neg (by omega)]
theorem hp_n (l:List Obj):(hp l).n=l.length:=by
 have:=j97 l Heap.empty
 change (hp l).n=0+l.length at this
 omega
theorem zy5 (l:List Obj) (r:Nat):(hp l).get r=l.getD r .dead:=by
 have:=xx6 l Heap.empty r
 change (hp l).get r=if 0≤r∧r<0+l.length then l.getD (r-0) .dead else Obj.dead at this
 rw [this]
 split
 ·rw [Nat.sub_zero]
 ·rename_i h1
  rw [List.getD_eq_getElem?_getD,List.getElem?_eq_none (by omega)];rfl
theorem xk2 {N:Nat} {ρ:Ren} {h:Heap} (l:Ren):∀ (j:Nat) (os:List Obj),zf3 N ρ h l j=some os→os.length=l.length∧∀ i p,l[i]?=some p→∃ o,os[i]?=some o∧renO N ρ h (j+i) p=some o:=by
 induction l with
 | nil=>intro j os h;cases h;exact ⟨rfl,fun i p e=>by simp at e⟩
 | cons p l IH =>
  intro j os hh
  change (match renO N ρ h j p with | none=>none | some o=>match zf3 N ρ h l (Nat.succ j) with | none=>none | some os=>some (o::os))=some os at hh
  split at hh
  ·cases hh
  ·rename_i o ho
   split at hh
   ·cases hh
   ·rename_i os' hos
    cases hh
    obtain ⟨h1,h2⟩:=IH _ _ hos
    refine ⟨by simp [h1],fun i q e=>?_⟩
    cases i with
    | zero=>simp at e;subst e;exact ⟨o,rfl,ho⟩
    | succ i =>
     obtain ⟨o',a,b⟩:=h2 i q (by simpa using e)
     exact ⟨o',by simpa using a,by rw [← b];congr 1;omega⟩
theorem x77 {ρ:Ren} {h:Heap} (l:Ren) (ho:Alls (oldA ρ h l)):∀ p,p∈l→Alls (oldO ρ h p):=by
 induction l with
 | nil=>intro p hp;cases hp
 | cons q l IH =>
  have ho:Alls (List.app (oldO ρ h q) (oldA ρ h l)):=ho
  obtain ⟨h1,h2⟩:=qr1 ho
  intro p hp
  rcases List.mem_cons.1 hp with rfl | hp
  ·exact h1
  ·exact IH h2 p hp
theorem xz6 {ρ:Ren} {h:Heap} (L:List (Nat×V)) (ho:Alls (oldS ρ h L)):∀ i x,(i,x)∈L→Alls (oldV ρ h 5 x):=by
 induction L with
 | nil=>intro i x hp;cases hp
 | cons q L IH =>
  have ho:Alls (List.app (oldV ρ h 5 q.2) (oldS ρ h L)):=ho
  obtain ⟨h1,h2⟩:=qr1 ho
  intro i x hp
  rcases List.mem_cons.1 hp with rfl | hp
  ·exact h1
  ·exact IH h2 i x hp
theorem x60 {N:Nat} {ρ:Ren} {h:Heap} {g g':Gh} (hr:RenOk N ρ h g g') {e e':V} (hφ:Alls (oldE ρ h e)) (he:renE N ρ h e=some e'):e'.cells.length=e.cells.length∧e'.flat=true∧∀ (j:Nat) y y' v,e.cells[j]?=some y→e'.cells[j]?=some y'→R g v y→R g' v y':=by
 unfold renE at he
 split at he
 ·rename_i vs
  split at he
  ·rename_i l hl
   cases he
   obtain ⟨m1,m2⟩:=q95 hl
   refine ⟨m1,rfl,fun j y y' v p q hR=>?_⟩
   obtain ⟨y2,a,b⟩:=m2 j y p
   have q:l[j]?=some y':=q
   rw [q] at a;cases a
   exact x09 hr 4 (qe9 (show Alls (oldL (oldV ρ h 4) vs) from hφ) y (List.mem_of_getElem? p)) hR b
  ·cases he
 ·cases he
 ·cases he
 ·rename_i h1 h2 h3
  have c1:e.cells=[e]:=by cases e <;> first | rfl | exact absurd rfl (h1 _)
  have key:e'.cells=[e']∧e'.flat=true:=by
   have hP:∀ r ver (k:Nat→Nat→V),(∀ j v,(k j v).cells=[k j v]∧(k j v).flat=true)→(renP N ρ h r ver k).cells=[renP N ρ h r ver k]∧(renP N ρ h r ver k).flat=true:=by
    intro r ver k hk
    unfold renP
    split
    ·exact ⟨rfl,rfl⟩
    ·split
     ·exact hk _ _
     ·exact ⟨rfl,rfl⟩
   cases e with
   | agg vs=>exact absurd rfl (h1 _)
   | tup vs=>exact absurd rfl (h2 _)
   | fsl a b c d f=>exact absurd rfl (h3 _ _ _ _ _)
   | ptr r ver off=>cases he;exact hP _ _ _ fun _ _=>⟨rfl,rfl⟩
   | sl r ver o n c=>cases he;exact hP _ _ _ fun _ _=>⟨rfl,rfl⟩
   | iface t x =>
    change (match renV N ρ h 3 x with | some y=>some (V.iface t y) | none=>none)=some e' at he
    split at he
    ·cases he;exact ⟨rfl,rfl⟩
    ·cases he
   | func f a b =>
    cases f with
    | func f =>
     change (match mapO (renV N ρ h 3) a with | some a'=>(match mapO (renV N ρ h 3) b with | some b'=>some (V.func (.func f) a' b') | none=>none) | none=>none)=some e' at he
     split at he
     ·split at he
      ·cases he;exact ⟨rfl,rfl⟩
      ·cases he
     ·cases he
    | _=>cases he
   | map r=>cases he
   | iter r=>cases he
   | _=>cases he;exact ⟨rfl,rfl⟩
  have e4:oldE ρ h e=oldV ρ h 4 e:=by cases e <;> first | rfl | exact absurd rfl (h1 _)
  rw [e4] at hφ
  rw [c1,key.1]
  refine ⟨rfl,key.2,fun j y y' v p q hR=>?_⟩
  cases j with
  | zero=>simp at p q;subst p;subst q;exact x09 hr 4 hφ hR he
  | succ j=>simp at p
theorem xu3 {N:Nat} {ρ:Ren} {h:Heap} {L:List (Nat×V)}:∀ {L':List (Nat×V)} {i:Nat} {y:V},renL N ρ h L=some L'→(i,y)∈L'→∃ x,(i,x)∈L∧renV N ρ h 5 x=some y:=by
 induction L with
 | nil=>intro L' i y h hm;cases h;cases hm
 | cons p L IH =>
  intro L' i y hh hm
  change (match renV N ρ h 5 p.2 with | none=>none | some y=>match renL N ρ h L with | none=>none | some l=>some ((p.1,y)::l))=some L' at hh
  split at hh
  ·cases hh
  ·rename_i y0 hy0
   split at hh
   ·cases hh
   ·rename_i l hl
    cases hh
    rcases List.mem_cons.1 hm with e | e
    ·cases e;exact ⟨p.2,by simp,hy0⟩
    ·obtain ⟨x,h1,h2⟩:=IH hl e
     exact ⟨x,by simp [h1],h2⟩
theorem Vw.gc {b:Fr} {L:List (Nat×V)} {h:Heap} (ρ:Ren) (ks:List Nat) (L1 L':List (Nat×V)) (os:List Obj) (hb:b.marks=[]∧b.defers=[]∧b.round=none) (hr:z85 N h.n ρ 0 []=true) (hos:zf3 N ρ h ρ 0=some os) (hL1:q96 (b.on L) ks=L1) (hL:renL N ρ h L1=some L') (φs:List Prop) (hφ:List.app (oldA ρ h ρ) (oldS ρ h L1)=φs) (ho:Alls φs):Vw N (b.on L) h (b.on L') (hp os):=by
 refine ⟨fun {B w0 w g0 g bf a} hD hg hW hf=>?_⟩
 subst hφ
 obtain ⟨hoA,hoS⟩:=qr1 ho
 obtain ⟨r1,r2,r3⟩:=x97 ρ 0 [] hr
 obtain ⟨o1,o2⟩:=xk2 ρ 0 os hos
 let g':Gh:=⟨fun j=>match ρ[j]? with | some p=>g.mu p.1 | none=>none,fun j=>match ρ[j]? with | some p=>(match g.vr p.1 with | some v=>some (verN N j v) | none=>none) | none=>none,g.S⟩
 have hren:RenOk N ρ h g g':=⟨rfl,fun j p e=>by simp [g',e],fun j p v e hv=>by simp [g',e,hv],hW.ver⟩
 have hlow:∀ r,r<N→∃ p,ρ[r]?=some p∧p.1=r:=by
  intro r hr
  obtain ⟨p,hp⟩:=z9 ρ r (by omega)
  exact ⟨p,hp,by have:=((r2 r p hp).2.2 (by omega)).1;omega⟩
 have hvN:∀ r v,r<N→verN N r v=v:=by
  intro r v hr
  unfold verN
  have:Nat.blt r N=true:=by rw [Nat.blt_eq];exact hr
  rw [this];rfl
 have hdom0:∀ r,(g0.mu r≠none∨g0.vr r≠none)→r<N:=by
  intro r hr
  rcases Nat.lt_or_ge r N with q | q
  ·exact q
  ·obtain ⟨e1,e2⟩:=hD r q
   rcases hr with hr | hr
   ·exact absurd e1 hr
   ·exact absurd e2 hr
 refine ⟨g',⟨⟨hg.ext.S,fun r v e=>?_,fun r x e e'=>?_⟩,hg.keep⟩,?_,?_⟩
 ·have hrN:=hdom0 r (.inr (by rw [e];simp))
  obtain ⟨v',e1,e2,e3⟩:=hg.ext.row r v e
  obtain ⟨p,hp,hpr⟩:=hlow r hrN
  refine ⟨v',?_,e2,fun q=>?_⟩
  ·have:=hren.vr r p v' hp (by rw [hpr];exact e1)
   rw [this,hvN r v' hrN]
  ·rw [hren.mu r p hp,hpr];exact e3 q
 ·have hrN:=hdom0 r (.inl (by rw [e'];simp))
  obtain ⟨e1,e2⟩:=hg.ext.obj r x e e'
  obtain ⟨p,hp,hpr⟩:=hlow r hrN
  refine ⟨?_,by rw [hren.mu r p hp,hpr];exact e2⟩
  simp [g',hp,hpr,e1]
 ·refine ⟨hW.low,hW.base,hW.shut,fun r hr=>?_,fun r hr=>?_,fun r=>?_,fun r x hx=>?_,fun r r' x x' hx hx' he=>?_,fun r x hx=>?_⟩
  ·rw [hp_n,o1] at hr
   obtain ⟨p,hp⟩:=z9 ρ r hr
   obtain ⟨x,hx⟩:=hW.dom p.1 (r2 r p hp).1
   exact ⟨x,by rw [hren.mu r p hp];exact hx⟩
  ·rw [hp_n,o1] at hr
   refine ⟨?_,?_⟩
   ·simp [g',List.getElem?_eq_none hr]
   ·rw [zy5,List.getD_eq_getElem?_getD,List.getElem?_eq_none (by rw [o1];exact hr)];rfl
  ·rw [zy5,List.getD_eq_getElem?_getD]
   rcases Nat.lt_or_ge r ρ.length with hlt | hge
   ·obtain ⟨p,hp⟩:=z9 ρ r hlt
    obtain ⟨o,ho,hro⟩:=o2 r p hp
    rw [ho,Nat.zero_add] at *
    have hv:=hW.ver p.1
    change (match ρ[r]? with | some p=>(match g.vr p.1 with | some v=>some (verN N r v) | none=>none) | none=>none)=_
    rw [hp]
    simp only [Option.getD_some]
    unfold renO at hro
    cases hgp:h.get p.1 with
    | row ver ty sz pub cap es =>
     rw [hgp] at hv hro
     simp only at hv hro
     rw [hv]
     cases h2:p.2 with
     | true=>rw [h2] at hro;cases hro;rfl
     | false =>
      rw [h2] at hro
      simp only [cond_false] at hro
      split at hro
      ·cases hro;rfl
      ·cases hro
    | siter s pos=>rw [hgp] at hv hro;cases hro;rw [hv]
    | dead=>rw [hgp] at hv hro;cases hro;rw [hv]
    | _=>rw [hgp] at hro;cases hro
   ·rw [List.getElem?_eq_none (by rw [o1];exact hge)]
    simp [g',List.getElem?_eq_none hge]
  ·have hlt:r<ρ.length:=by
    rcases Nat.lt_or_ge r ρ.length with q | q
    ·exact q
    ·simp [g',List.getElem?_eq_none q] at hx
   obtain ⟨p,hp⟩:=z9 ρ r hlt
   rw [hren.mu r p hp] at hx
   obtain ⟨o,ho,hro⟩:=o2 r p hp
   rw [zy5,List.getD_eq_getElem?_getD,ho,Option.getD_some]
   have hobj:=hW.obj p.1 x hx
   unfold renO at hro
   cases hgp:h.get p.1 with
   | row ver ty sz pub cap es =>
    rw [hgp] at hobj hro
    obtain ⟨e1,C,fr,hrow⟩:=hobj
    simp only at hro
    cases h2:p.2 with
    | true =>
     rw [h2] at hro;cases hro
     have hob:=x77 ρ hoA p (List.mem_of_getElem? hp)
     unfold oldO at hob
     rw [hgp] at hob
     simp only [h2,cond_true] at hob
     have hob:=hob.1
     refine ⟨e1,C,fr,hrow.at_,hrow.csize,hrow.pos,hrow.fits,hrow.pubs,hrow.caps,hrow.elems,fun i e j y he hy=>?_,hrow.shut,hrow.ice⟩
     obtain ⟨v,a1,a2,a3⟩:=hrow.cells i e j y he hy
     have hG3:GR g.S v y:=z64 3 a3 ((qd4 _ _).1 (hob e (List.mem_of_getElem? he)) y (List.mem_of_getElem? hy))
     exact ⟨v,a1,a2,.gnd hG3⟩
    | false =>
     rw [h2] at hro
     simp only [cond_false] at hro
     split at hro
     ·rename_i es' hes
      cases hro
      obtain ⟨m1,m2⟩:=q95 hes
      have hob:=x77 ρ hoA p (List.mem_of_getElem? hp)
      unfold oldO at hob
      rw [hgp] at hob
      simp only [h2,cond_false] at hob
      refine ⟨e1,C,fr,hrow.at_,hrow.csize,hrow.pos,by rw [m1];exact hrow.fits,by rw [m1];exact hrow.pubs,hrow.caps,fun i e' he'=>?_,fun i e' j y' he' hy'=>?_,hrow.shut,hrow.ice⟩
      ·obtain ⟨e,he⟩:=z9 es i (by rw [← m1];exact q9 he')
       obtain ⟨e2,q1,q2⟩:=m2 i e he
       rw [he'] at q1;cases q1
       obtain ⟨b1,b2⟩:=hrow.elems i e he
       obtain ⟨c1,c2,_⟩:=x60 hren (qe9 hob e (List.mem_of_getElem? he)) q2
       exact ⟨c1.trans b1,c2⟩
      ·obtain ⟨e,he⟩:=z9 es i (by rw [← m1];exact q9 he')
       obtain ⟨e2,q1,q2⟩:=m2 i e he
       rw [he'] at q1;cases q1
       obtain ⟨c1,_,c3⟩:=x60 hren (qe9 hob e (List.mem_of_getElem? he)) q2
       obtain ⟨y,hy⟩:=z9 e.cells j (by rw [← c1];exact q9 hy')
       obtain ⟨v,a1,a2,a3⟩:=hrow.cells i e j y he hy
       exact ⟨v,a1,a2,c3 j y y' v hy hy' a3⟩
     ·cases hro
   | siter s pos=>rw [hgp] at hobj hro;cases hro;exact hobj
   | dead=>cases h1:o <;> rw [hgp] at hro <;> cases hro <;> cases h1;trivial
   | _=>rw [hgp] at hro;cases hro
  ·have hlt:∀ {q y},g'.mu q=some y→∃ p,ρ[q]?=some p:=by
    intro q y hy
    rcases Nat.lt_or_ge q ρ.length with h1 | h1
    ·exact z9 ρ q h1
    ·simp [g',List.getElem?_eq_none h1] at hy
   obtain ⟨p,hp⟩:=hlt hx
   obtain ⟨p',hp'⟩:=hlt hx'
   rw [hren.mu r p hp] at hx
   rw [hren.mu r' p' hp'] at hx'
   exact r3 r r' p p' hp hp' (hW.inj _ _ _ _ hx hx' he)
  ·have hlt:r<ρ.length:=by
    rcases Nat.lt_or_ge r ρ.length with q | q
    ·exact q
    ·simp [g',List.getElem?_eq_none q] at hx
   obtain ⟨p,hp⟩:=z9 ρ r hlt
   rw [hren.mu r p hp] at hx
   exact hW.high _ _ hx
 ·obtain ⟨hb1,hb2,hb3⟩:=hb
  refine ⟨hf.fn,⟨hf.slots.size,fun i v hv=>?_,fun i hi=>qo8 b.n L' i hi⟩,?_,?_⟩
  ·have hi:i<b.n:=by have:=q33 hv;rw [hf.slots.size] at this;exact this
   rcases qx0 b.n L' i hi with e | ⟨y,hm,e⟩
   ·exact .inl e
   ·right
    change R g' v ((mkT b.n L').get undef i)
    rw [e]
    obtain ⟨x,hx,hxy⟩:=xu3 hL hm
    have hold:=xz6 _ hoS _ _ hx
    rw [← hL1] at hx
    have:=qu2 hx
    subst this
    have hne:(b.on L).at' i≠lost:=fun q=>by rw [q] at hxy;cases hxy
    exact x09 hren 5 hold ((hf.slots.rel i v hv).resolve_left hne) hxy
  ·have:=hf.round
   change qf3 g bf.roundOf b.round at this
   change qf3 g' bf.roundOf b.round
   rw [hb3] at this ⊢
   exact this
  ·have:=hf.marks
   change q22 g a.defers b.marks b.defers at this
   change q22 g' a.defers b.marks b.defers
   rw [hb1,hb2] at this ⊢
   have h0:a.defers=[]:=by have:=this.calls.1;simpa using this
   rw [h0];exact q22.nil g'
theorem Vw.eq {s s':Fr} {h h':Heap} (hs:s=s') (hh:h=h'):Vw N s h s' h':=by
 subst hs hh
 exact ⟨fun _ hg hW hf=>⟨_,hg,hW,hf⟩⟩
theorem x56 {S:Nat→Nat→Option Value} {w:World} {v:Value} {x:V} (h:GR S v x):RA S w v x []:=by
 have lst:∀ (xs:List V) (vs:List Value),vs.length=xs.length→(∀ (i:Nat) v x,vs[i]?=some v→xs[i]?=some x→GR S v x)→RL S w vs xs []:=by
  intro xs
  induction xs with
  | nil=>intro vs hn _;cases vs with | nil=>exact .nil | cons _ _=>simp at hn
  | cons x xs IH =>
   intro vs hn h
   cases vs with
   | nil=>simp at hn
   | cons v vs=>exact .cons (b:=[]) (bs:=[]) (.data (h 0 v x rfl rfl)) (IH vs (by simpa using hn) fun i v x p q=>h (i+1) v x (by simpa using p) (by simpa using q))
 have part:∀ {v:Value} {x:V},GR S v x→RP S w v x []:=by
  intro v x h
  by_cases ha:∃ l,x=.agg l
  ·obtain ⟨l,rfl⟩:=ha
   cases h with
   | agg hn h1 h=>exact .agg h1 (lst l _ (by simpa using hn) fun i v x p q=>h i v x (by simpa using p) q)
  ·exact .one (fun l e=>ha ⟨l,e⟩) (.data h)
 by_cases ht:∃ l,x=.tup l
 ·obtain ⟨l,rfl⟩:=ht
  cases h with
  | tup hn h =>
   refine .tup ?_
   have:∀ (xs:List V) (vs:List Value),vs.length=xs.length→(∀ (i:Nat) v x,vs[i]?=some v→xs[i]?=some x→GR S v x)→RPL S w vs xs []:=by
    intro xs
    induction xs with
    | nil=>intro vs hn _;cases vs with | nil=>exact .nil | cons _ _=>simp at hn
    | cons x xs IH =>
     intro vs hn h
     cases vs with
     | nil=>simp at hn
     | cons v vs=>exact .cons (b:=[]) (bs:=[]) (part (h 0 v x rfl rfl)) (IH vs (by simpa using hn) fun i v x p q=>h (i+1) v x (by simpa using p) (by simpa using q))
   exact this l _ (by simpa using hn) fun i v x p q=>h i v x (by simpa using p) q
 ·exact .one (fun l e=>ht ⟨l,e⟩) (part h)
def Gk (x x':V):Prop:=∀ (S:Nat→Nat→Option Value) (v:Value),GR S v x→GR S v x'
theorem Cp.data {f:FuncId} {gs:List V} {g g':V} (hc:Cp P E f gs g) (hg:Gk (qg7 g) g'):Cp P E f gs g':=by
 intro hF S w cs us hs hG hus
 obtain ⟨S',w',y,bs,hm,hk,hS,hl,hA,hn,hb,hret⟩:=hc hF S w cs us hs hG hus
 have hW:W w.heap.size w (Gh.data S') Heap.empty w':={ W.start (w:=w') hS with low:=hl,base:=hl.size,high:=fun r x e=>by cases e }
 obtain ⟨S2,t,hR⟩:=qu6 hW hA (fun b hb'=>⟨(hb b hb').1,(hb b hb').2,fun q x hq=>by cases hq⟩) hn
 exact ⟨S2,w',y,[],fun b o v e=>t.grown.ext.S b o v (hm b o v e),fun b o v hb' e=>hk b o v hb' (t.grown.keep b o v hb' e),t.world.shut,hl,x56 (hg _ _ hR),List.nodup_nil,(fun b hb'=>by cases hb'),hret⟩
theorem Gk.refl (x:V):Gk x x:=fun _ _ h=>h
theorem Gk.nils (sz:Nat):Gk .nils (.osl sz []):=fun S v h=>by cases h;exact .oslN
theorem Gk.gsl {sz:Nat} {es:List V} {c:Option Nat}:Gk (.gsl sz es c) (.osl sz es):=fun S v h=>by
 cases h with
 | gsl val hsz hc hS hcap hle hh=>exact .oslS (.gsl val hsz hc hS (fun _ e=>by cases e) hle hh)
theorem Gk.agg {xs ys:List V} (hn:xs.length=ys.length) (h:∀ (i:Nat) x y,xs[i]?=some x→ys[i]?=some y→Gk x y):Gk (.agg xs) (.agg ys):=fun S v hR=>by
 cases hR with
 | agg h1 h2 h3 =>
  refine .agg (h1.trans hn) h2 fun i v y p q=>?_
  obtain ⟨x,hx⟩:=z9 xs i (by rw [hn];exact q9 q)
  exact h i x y hx q S v (h3 i v x p hx)
def Wks (xs ys:List V):Prop:=xs.length=ys.length∧∀ (i:Nat) x y,xs[i]?=some x→ys[i]?=some y→Wk x y
theorem Wks.nil:Wks [] []:=⟨rfl,fun i x y h _=>by simp at h⟩
theorem Wks.cons {x y:V} {xs ys:List V} (h:Wk x y) (t:Wks xs ys):Wks (x::xs) (y::ys):=by
 refine ⟨by simp [t.1],fun i a b p q=>?_⟩
 cases i with
 | zero=>simp at p q;subst p;subst q;exact h
 | succ i=>exact t.2 i a b (by simpa using p) (by simpa using q)
theorem Cp.args {f:FuncId} {gs gs':List V} {g:V} (hw:Wks gs gs') (hc:Cp P E f gs' g):Cp P E f gs g:=by
 intro hF S w cs us hs hG hus
 refine hc hF S w cs us hs hG ⟨hus.1.trans hw.1,fun i v y p q=>?_⟩
 obtain ⟨x,hx⟩:=z9 gs i (by rw [hw.1];exact q9 q)
 exact hw.2 i x y hx q _ v (hus.2 i v x p hx)
theorem Wk.aggs {xs ys:List V} (h:Wks xs ys):Wk (.agg xs) (.agg ys):=.agg h.1 h.2
theorem Cx.pureG {f:FuncId} {gs:List V} {g:V} (hc:Cx P E f gs Heap.empty (fun v h=>∃ g0,q58 h v=some g0∧Gk (qg7 g0) g)):Cp P E f gs g:=by
 intro hF S w cs us hs hG hus
 obtain ⟨v,h',⟨g0,hr,hgk⟩,g',w',u,hg,hW,hR,hret⟩:=hc hF cs us (W.start hs) hG hus
 obtain ⟨S',h2,bs,hg',hW',hA,hn,hb⟩:=qq9 hW hR hr
 have hgg:=hg.trans hg'
 have hW2:W w.heap.size w (Gh.data S') Heap.empty w':={ W.start (w:=w') hW'.shut with low:=hW'.low,base:=hW'.low.size,high:=fun r x e=>by cases e }
 obtain ⟨S2,t,hR2⟩:=qu6 hW2 hA (fun b hb'=>⟨(hb b hb').1,(hb b hb').2,fun q x hq=>by cases hq⟩) hn
 exact ⟨S2,w',u,[],fun b o v e=>t.grown.ext.S b o v (hgg.ext.S b o v e),fun b o v hb' e=>hgg.keep b o v hb' (t.grown.keep b o v hb' e),t.world.shut,hW'.low,x56 (hgk _ _ hR2),List.nodup_nil,(fun b hb'=>by cases hb'),hret⟩
theorem Cp.bodyG {f:FuncId} {fn:Func} {body:Code} {gs:List V} {g:V} (hf:P.funcs[f]?=some fn) (hb:fn.body=some body) (hl:Nat.ble (List.len gs) fn.ntmps=true)
  (hw:Wc P E body (argS f fn.ntmps gs) Heap.empty (retX P fn fun v h=>∃ g0,q58 h v=some g0∧Gk (qg7 g0) g) (z77 P fn fun v h=>∃ g0,q58 h v=some g0∧Gk (qg7 g0) g) 0):Cp P E f gs g:=(Ev.body hf hb hl hw).pureG
end Go.AM
namespace Go.AM
open Go.RowKit
variable {P:Program} {E:Env}
theorem xs1 {α:Type} {g:Heap→V→Option (V×Heap)} {f:α→V} (hf:∀ a h,g h (f a)=some (f a,h)) (l:List α) (h:Heap):pubL g (l.map f) h=some (l.map f,h):=by
 induction l with
 | nil=>rfl
 | cons a l IH =>
  change (match g h (f a) with
   | none=>none
   | some (v',h1)=>match pubL g (l.map f) h1 with
    | none=>none
    | some (l',h2)=>some (v'::l',h2))=_
  rw [hf]
  simp only [IH,List.map_cons]
theorem q94 {α:Type} {f:α→V} (hf:∀ seen a h,pub seen q04 h (f a)=some (f a,h)) {h:Heap} {r ver n ty sz pb:Nat} {cap:Option Nat} {l:List α} {es:List V} (hg:h.get r=.row ver ty sz pb cap es) (he:es=l.map f) (hn:n=l.length):q58 h (.sl r ver 0 n none)=some (.fsl ty sz pb (l.map f) cap):=by
 subst he hn
 have e:retV h [] (.sl r ver 0 l.length none)=some (.fsl ty sz pb (l.map f) cap,h,[r]):=by
  change (match h.get r with
   | .row ver' ty sz _ cap es =>
    bif Nat.beq ver ver'&&Nat.beq 0 0&&Nat.beq l.length (List.len es)&&zh1 none&&!(memN r []) then
     match pubL (pub [r] q04) es h with
     | some (es',h1)=>match h1.get r with
      | .row _ _ _ pb _ _=>some (V.fsl ty sz pb es' cap,h1,[r])
      | _=>none
     | none=>none
    else match pub [] q04 h (.sl r ver 0 l.length none) with
     | some (v',h')=>some (v',h',[])
     | none=>none
   | _=>none)=_
  rw [hg]
  simp only [Nat.beq_refl,List.len_eq,List.length_map]
  rw [xs1 (hf [r])]
  simp only [hg]
  rfl
 change (match retV h [] (.sl r ver 0 l.length none) with
  | some (v',_)=>some v'
  | none=>none)=_
 rw [e]
theorem xy7 {α:Type} {f:α→V} (hc:∀ a,(f a).cells=[f a]) {h:Heap} {t ty r ver i k pub:Nat} {cap:Option Nat} {l:List α} (d:α) (ha:q30 P t=some false) (hs:size P t=1) (hr:h.get r=.row ver ty 1 pub cap (l.map f)) (he:i=k*1) (hk:k<l.length):load P h t (.ptr r ver i)=some (f (l.getD k d)):=by
 subst he
 rw [Nat.mul_one]
 refine xs7 ha hs hr ?_ (hc _)
 rw [List.getElem?_map,List.getElem?_eq_getElem hk,List.getD_eq_getElem?_getD,List.getElem?_eq_getElem hk];rfl
theorem zv8 {α:Type} {f:α→V} (hc:∀ a,(f a).cells=[f a]) {h:Heap} {t i k:Nat} {l:List α} (d:α) (ha:q30 P t=some false) (hs:size P t=1) (he:i=k*1) (hk:k<l.length):load P h t (.gptr 1 (l.map f) i)=some (f (l.getD k d)):=by
 subst he
 rw [Nat.mul_one]
 refine xg6 ha hs ?_ (hc _)
 rw [List.getElem?_map,List.getElem?_eq_getElem hk,List.getD_eq_getElem?_getD,List.getElem?_eq_getElem hk];rfl
theorem x3 {α:Type} {f:α→V} (hf:∀ a,x2 (x4 3) (f a).cells=true) (l:List α):∀ e,e∈l.map f→x2 (x4 3) e.cells=true:=fun e he=>by
 obtain ⟨a,_,rfl⟩:=List.mem_map.1 he
 exact hf a
theorem w6 {a b:List V} (ha:∀ e,e∈a→x2 (x4 3) e.cells=true) (hb:∀ e,e∈b→x2 (x4 3) e.cells=true):∀ e,e∈a++b→x2 (x4 3) e.cells=true:=fun e he=>by
 rcases List.mem_append.1 he with h | h
 ·exact ha e h
 ·exact hb e h
theorem q63 {x:V} (h:x2 (x4 3) x.cells=true):∀ e,e∈[x]→x2 (x4 3) e.cells=true:=fun e he=>by
 simp only [List.mem_singleton] at he
 subst he;exact h
def xw6:Nat→Code→Code
 | 0,.seq _ b=>b
 | m+1,.seq _ b=>xw6 m b
 | _,_=>.skip
theorem Wc.use {P:Program} {E:Env} {N:Nat} {X:Ex→Fr→Heap→Prop} {K:Fr→Heap→Prop} {c c':Code} {s Q:Fr} {h H:Heap} (hb:Wc P E c' Q H K X N) (hc:c'=c) (hh:h=H) (hl:Le Q s):Wc P E c s h K X N:=by
 subst hc hh
 exact hb.weak hl
theorem Vw.pub {N:Nat} {b:Fr} {L:List (Nat×V)} {h h1:Heap} (i:Nat) (x x':V) (ks:List Nat) (L':List (Nat×V)) (hx:(b.on L).at' i=x) (hn:Nat.blt i b.n=true) (hp:pub [] q04 h x=some (x',h1)) (hl:x≠lost) (hk:sumP ks ((b.on L).put (some i) x')=some L'):Vw N (b.on L) h (b.on L') h1:=by
 refine ⟨fun {B w0 w g0 g bf a} hD hg hW hf=>?_⟩
 have hi:i<b.n:=by rw [← Nat.blt_eq];exact hn
 obtain ⟨v,hv⟩:=j4 a.tmps i (by rw [hf.slots.size];exact hi)
 have hR:R g v x:=by
  rcases hf.slots.rel i v hv with e | e
  ·exfalso
   have e:(b.on L).at' i=lost:=e
   rw [hx] at e;exact absurd e hl
  ·have e:R g v ((b.on L).at' i):=e
   rw [hx] at e;exact e
 obtain ⟨S,q,hG,_⟩:=qb4 [] q04 hW hR hp
 have hf':=hf.mono q.grown.ext
 obtain ⟨s1,hs1,hk1⟩:=q14 hk
 have e1:s1=⟨b.fn,b.n,T.set undef x' (b.on L).tm i,b.marks,b.defers,b.round,b.dk,b.did⟩:=by
  change Bool.rec none (some _) (Nat.blt i b.n)=some s1 at hs1
  rw [hn] at hs1
  cases hs1;rfl
 have hf1:FrOk (g.say S) bf s1 a:=by
  subst e1
  refine ⟨hf'.fn,⟨hf'.slots.size,fun j u hj=>?_,fun j hj=>?_⟩,hf'.round,hf'.marks⟩
  ·rw [T.get_set]
   split
   ·rename_i e
    subst e
    rw [hv] at hj;cases hj
    exact .inr (.gnd hG)
   ·exact hf'.slots.rel j u hj
  ·rw [T.get_set,if_neg (by have hj:b.n≤j:=hj;omega)]
   exact hf'.slots.none j hj
 have hs:SameB b s1:=(SameB.on b L).trans (SameB.put hs1)
 exact ⟨_,hg.trans q.grown,q.world,(hs.keep hk1).ok hf1⟩
def Pd (e:V):Prop:=∀ (h:Heap),AM.pub [] 39 h e=some (e,h)
theorem zh5 {α:Type} {f:α→V} (hf:∀ a h,AM.pub [] 39 h (f a)=some (f a,h)) (l:List α):∀ e,e∈l.map f→Pd e:=fun e he=>by
 obtain ⟨a,_,rfl⟩:=List.mem_map.1 he
 exact hf a
theorem j23 {l:List V} (hl:∀ e,e∈l→Pd e) (h:Heap):pubL (AM.pub [] 39) l h=some (l,h):=by
 induction l with
 | nil=>rfl
 | cons x l IH =>
  rw [qt7,hl x (by simp)]
  simp only [IH fun e he=>hl e (by simp [he])]
theorem z99 {h:Heap} {r ver n ty sz pb:Nat} {cap c:Option Nat} {es:List V} (hg:h.get r=.row ver ty sz pb cap es) (hn:n=es.length) (hp:∀ e,e∈es→Pd e):AM.pub [] q04 h (.sl r ver 0 n c)=some (.gsl sz es (match c with | some c=>some c | none=>subO cap 0),h.set r (.row ver ty sz (Nat.max pb (Nat.add 0 n)) cap es)):=by
 subst hn
 change z94 (AM.pub [] 39) [] h r ver 0 es.length c=_
 unfold z94
 rw [hg]
 simp only
 have e1:(Nat.beq ver ver&&!(memN r [])&&Nat.ble (Nat.add 0 es.length) (List.len es))=true:=by
  rw [Nat.beq_refl,List.len_eq]
  simp [memN]
 have e2:List.takeN (List.dropN es 0) es.length=es:=by rw [List.takeN_eq,List.dropN_eq,List.drop_zero,List.take_length]
 rw [e1,e2,j23 hp]
 simp only [cond_true,hg,Nat.beq_refl]
 rfl
theorem Wc.mid {P:Program} {E:Env} {N:Nat} {X:Ex→Fr→Heap→Prop} {K:Fr→Heap→Prop} {c c':Code} {s:Fr} {h:Heap} (S':Fr) (H':Heap) (hv:Wc P E c s h (fun s1 h1=>Vw N s1 h1 S' H') X N) (hb:Wc P E c' S' H' K X N):Wc P E c s h (fun s1 h1=>Wc P E c' s1 h1 K X N) X N :=
 hv.mono (fun _ _ q=>Wc.view q hb) (fun _ _ _ q=>q)
noncomputable def xw1 (P:Program) (E:Env) (all:List Oper) (i:Nat) (s:Fr):Option (TypeId×V×V×Option Tmp) :=
 match opAt all i s with
 | none=>none
 | some o=>match o.op with
  | .call c=>(match c.callee with
   | .builtin b=>(match b with
    | .append=>(match c.argTypes.toList with
     | [t,u]=>bif q24 P u then (match mapO (ev E.glob s.tm) c.args.toList with
      | some [x,y]=>some (t,x,y,o.dst)
      | _=>none) else none
     | _=>none)
    | _=>none)
   | _=>none)
  | _=>none
theorem Wl.append {P:Program} {E:Env} {N:Nat} {X:Ex→Fr→Heap→Prop} {K:Fr→Heap→Prop} {all:List Oper} {b:Fr} {L:List (Nat×V)} {h h1:Heap} {t:TypeId} {x y v:V} {d:Option Tmp} (i:Nat) (ks:List Nat) (L':List (Nat×V)) (ho:xw1 P E all i (b.on L)=some (t,x,y,d)) (hv:AM.append P t h x y=.val v h1) (hp:sumP ks ((b.on L).put d v)=some L') (hk:Wl P E all (all.drop (i+1)) (b.on L') h1 K X N):Wl P E all (all.drop i) (b.on L) h K X N:=by
 unfold xw1 at ho
 split at ho
 ·cases ho
 ·rename_i o hoa
  split at ho
  ·rename_i c hop
   split at ho
   ·rename_i bb hcal
    split at ho
    ·split at ho
     ·rename_i t' u hts
      obtain ⟨hu,ho⟩:=x7 ho rfl
      split at ho
      ·rename_i x' y' hm
       cases ho
       refine Wl.opv i ks L' hoa (v:=v) (h1:=h1) ?_ hp hk
       rw [q00 (fun _ _ _ e=>by rw [hop] at e;cases e)]
       unfold oper
       rw [hop,xe9]
       unfold q98
       rw [hm,hcal]
       simp only
       rw [hts]
       change (bif q24 P u then AM.append P t h x y else .stuck)=_
       rw [hu];exact hv
      ·cases ho
     ·cases ho
    ·cases ho
   ·cases ho
  ·cases ho
theorem xb4 {h:Heap} {sz r ver o ty pub:Nat} {c cap:Option Nat} {es:List V} (hg:h.get r=.row ver ty sz pub cap es) (ho:o≤es.length):elems h sz (.sl r ver o 0 c)=some []:=by
 unfold elems
 simp only [hg]
 have e:(Nat.beq ver ver&&Nat.beq sz sz&&Nat.ble (Nat.add o 0) (List.len es))=true:=by
  rw [Nat.beq_refl,Nat.beq_refl,List.len_eq]
  simpa using ho
 rw [e,List.takeN_eq];rfl
theorem x15 {P:Program} {h:Heap} {t e sz r ver o ty pub:Nat} {c cap:Option Nat} {es:List V} (ht:j3 P t=some e) (hs:size P e=sz) (h0:Nat.beq sz 0=false) (hg:h.get r=.row ver ty sz pub cap es) (ho:o≤es.length):AM.append P t h .nils (.sl r ver o 0 c)=.val .nils h:=by
 subst hs
 have e:q81 h (size P e) (.sl r ver o 0 c)=some []:=xb4 (c:=c) hg ho
 have:=qr8 (P:=P) (x:=V.nils) ht e h0
 rw [this];rfl
theorem x42 {P:Program} {h:Heap} {t e sz r ver o n ty pub:Nat} {c cap:Option Nat} {es:List V} (ht:j3 P t=some e) (hs:size P e=sz) (h0:Nat.beq sz 0=false) (hg:h.get r=.row ver ty sz pub cap es) (hn:n=0) (ho:o≤es.length):AM.append P t h .nils (.sl r ver o n c)=.val .nils h:=by
 subst hn
 exact x15 ht hs h0 hg ho
theorem x20 {P:Program} {h:Heap} {t e sz r ver o n m ty pub:Nat} {c cap:Option Nat} {es es':List V} (ht:j3 P t=some e) (hs:size P e=sz) (h0:Nat.beq sz 0=false) (hz:qa2 P e=true) (hg:h.get r=.row ver ty sz pub cap es) (hnm:n=m) (hm:0<m) (ho:o+m≤es.length) (he:(es.drop o).take m=es') (hr:m≤1099511627776) (hb:m*P.bytesOf e≤1099511627776) :
  AM.append P t h .nils (.sl r ver o n c)=.val (.sl h.n 0 0 m none) (newRow h e sz 0 none es'):=by
 subst hs hnm
 have e1:q81 h (size P e) (.sl r ver o n c)=some es':=by
  change elems h (size P e) (.sl r ver o n c)=_
  unfold elems
  simp only [hg]
  have e:(Nat.beq ver ver&&Nat.beq (size P e) (size P e)&&Nat.ble (Nat.add o n) (List.len es))=true:=by
   rw [Nat.beq_refl,Nat.beq_refl,List.len_eq]
   simpa using ho
  rw [e,List.takeN_eq,List.dropN_eq,he];rfl
 have hl:es'.length=n:=by rw [← he,List.length_take,List.length_drop];omega
 have hne:es'≠[]:=fun q=>by rw [q] at hl;simp at hl;omega
 have:=qr8 (P:=P) (x:=V.nils) ht e1 h0
 rw [this,z24 hne]
 simp only [cond_false]
 rw [List.len_eq,hl]
 exact z20 hz hr hb
theorem Vw.slot {N:Nat} {b:Fr} {L L':List (Nat×V)} {h:Heap} (i:Nat) (x x':V) (ks:List Nat) (hx:(b.on L).at' i=x) (hw:Wk x x') (hl:x≠lost) (hn:Nat.blt i b.n=true) (hk:sumP ks ((b.on L).put (some i) x')=some L'):Vw N (b.on L) h (b.on L') h:=by
 refine ⟨fun {B w0 w g0 g bf a} hD hg hW hf=>?_⟩
 have hi:i<b.n:=by rw [← Nat.blt_eq];exact hn
 obtain ⟨s1,hs1,hk1⟩:=q14 hk
 have e1:s1=⟨b.fn,b.n,T.set undef x' (b.on L).tm i,b.marks,b.defers,b.round,b.dk,b.did⟩:=by
  change Bool.rec none (some _) (Nat.blt i b.n)=some s1 at hs1
  rw [hn] at hs1
  cases hs1;rfl
 have hf1:FrOk g bf s1 a:=by
  subst e1
  refine ⟨hf.fn,⟨hf.slots.size,fun j u hj=>?_,fun j hj=>?_⟩,hf.round,hf.marks⟩
  ·rw [T.get_set]
   split
   ·rename_i e
    subst e
    rcases hf.slots.rel i u hj with q | q
    ·exfalso
     have q:(b.on L).at' i=lost:=q
     rw [hx] at q;exact hl q
    ·have q:R g u ((b.on L).at' i):=q
     rw [hx] at q;exact .inr (hw g u q)
   ·exact hf.slots.rel j u hj
  ·rw [T.get_set,if_neg (by have hj:b.n≤j:=hj;omega)]
   exact hf.slots.none j hj
 have hs:SameB b s1:=(SameB.on b L).trans (SameB.put hs1)
 exact ⟨_,hg,hW,(hs.keep hk1).ok hf1⟩
end Go.AM
namespace Go.AM
open Go.RowKit
variable {P:Program} {E:Env} {K:Fr→Heap→Prop} {X:Ex→Fr→Heap→Prop} {N:Nat} {ih:Task→Res}
noncomputable def dOne (P:Program) (E:Env) (ih:Task→Res) (all:List Oper) (o:Oper) (fr:Fr) (h:Heap):Option (Fr×Heap) :=
 match j9 all fr o with
 | none=>none
 | some t=>match t with
  | false=>(match fr.put o.dst undef with
   | some fr'=>some (fr',h)
   | none=>none)
  | true=>match doOp P E ih fr.tm h o with
   | .val v h'=>(match fr.put o.dst v with
    | some fr'=>some (fr',bif q12 E o.op then h else h')
    | none=>none)
   | _=>none
noncomputable def dTx (P:Program) (E:Env) (ih:Task→Res) (all:List Oper) (l:List Oper):Fr→Heap→Option (Fr×Heap) :=
 List.rec (motive:=fun _=>Fr→Heap→Option (Fr×Heap)) (fun fr h=>some (fr,h)) (fun o _ ihl fr h=>match dOne P E ih all o fr h with
  | some (fr',h')=>ihl fr' h'
  | none=>none) l
def okS (r:Nat×Nat) (e:Nat×Option Nat):Bool:=tb e.1 r.1||nxAt r.2 e.2
def qd5 (P:Program) (o:Op):Bool :=
 match o with
 | .move _=>true
 | .assign _=>true
 | .binOp b _ _ _ _=>(match b with
  | .eql=>false
  | .neq=>false
  | _=>true)
 | .slice t _ _ _ _=>q17 P t
 | _=>false
theorem qm8 {h:Heap} {r:Option V} {v:V} {h':Heap} (e:(match j8 h r with
  | .val v h'=>Outc.val v h'
  | .skip h'=>.val undef h'
  | .call f args h'=>orOf (q26 E ih true f args h')
  | .panic v h'=>.panic v h'
  | _=>.stuck)=.val v h'):r=some v:=by
 cases r with
 | none=>cases e
 | some x=>cases e;rfl
theorem qs9 {h2:Heap} {r:Option V} {v:V} (e:r=some v):∃ h3,(match j8 h2 r with
  | .val v h'=>Outc.val v h'
  | .skip h'=>.val undef h'
  | .call f args h'=>orOf (q26 E ih true f args h')
  | .panic v h'=>.panic v h'
  | _=>.stuck)=.val v h3:=by
 subst e;exact ⟨h2,rfl⟩
theorem xb3 {t:TypeId} {c:Bool} {b:BinOp} (h1:b≠.eql) (h2:b≠.neq) (h h':Heap) (x y:V):binOp P h t c b x y=binOp P h' t c b x y:=by
 have e:∀ h:Heap,eqOp P h t c b x y=none:=fun h=>by
  unfold eqOp
  cases b <;> first | rfl | exact absurd rfl h1 | exact absurd rfl h2
 cases x <;> first | rfl | (exact (e h).trans (e h').symm)
theorem xa2 {t:TypeId} (hs:q17 P t=true) (h h':Heap) (x:V) (lo hi mx:Option V):slice P h t x lo hi mx=slice P h' t x lo hi mx:=by
 have e:j3 P t=none:=by
  unfold q17 at hs
  unfold j3
  split
  ·rename_i q;rw [q] at hs;cases hs
  ·rfl
 unfold slice
 split
 ·rfl
 ·split
  ·rfl
  ·cases x with
   | sl r ver o n c =>
    simp only [e]
    cases q16 n hi <;> rfl
   | _=>first | rfl | simp only [e]
theorem zy6 {o:Oper} (hf:qd5 P o.op=true) {tm:T V} {h h':Heap} {v:V} (hd:doOp P E ih tm h o=.val v h') (h2:Heap):∃ h3,doOp P E ih tm h2 o=.val v h3:=by
 unfold qd5 at hf
 have ho:∀ h,(∀ t len ps,o.op≠.buildSlice t len ps)→w9 P E.glob tm h o=qt9 o.op P E.glob tm h:=fun h hb=>by
  unfold w9
  split
  ·rename_i t len ps q;exact absurd q (hb t len ps)
  ·rfl
 unfold doOp at hd ⊢
 split at hf
 ·rename_i x q
  rw [ho _ (fun _ _ _ r=>by rw [q] at r;cases r),q,xe1] at hd ⊢
  exact qs9 (qm8 hd)
 ·rename_i x q
  rw [ho _ (fun _ _ _ r=>by rw [q] at r;cases r),q,x02] at hd ⊢
  exact qs9 (qm8 hd)
 ·rename_i b t x y u q
  rw [ho _ (fun _ _ _ r=>by rw [q] at r;cases r),q,x23,xo9] at hd ⊢
  have hb:b≠.eql∧b≠.neq:=by
   constructor <;> intro r <;> rw [r] at hf <;> cases hf
  cases hx:ev E.glob tm x with
  | none=>rw [hx] at hd;cases hd
  | some x' =>
   cases hy:ev E.glob tm y with
   | none=>rw [hx,hy] at hd;cases hd
   | some y' =>
    rw [hx,hy] at hd
    simp only at hd ⊢
    rw [xb3 hb.1 hb.2 h2 h]
    exact qs9 (qm8 hd)
 ·rename_i t x lo hi mx q
  rw [ho _ (fun _ _ _ r=>by rw [q] at r;cases r),q,x16] at hd ⊢
  unfold qa1 at hd ⊢
  cases hx:ev E.glob tm x with
  | none=>rw [hx] at hd;cases hd
  | some x' =>
   cases hl:evO E.glob tm lo with
   | none=>rw [hx,hl] at hd;cases hd
   | some l' =>
    cases hh:evO E.glob tm hi with
    | none=>rw [hx,hl,hh] at hd;cases hd
    | some h'' =>
     cases hm:evO E.glob tm mx with
     | none=>rw [hx,hl,hh,hm] at hd;cases hd
     | some m' =>
      rw [hx,hl,hh,hm] at hd
      simp only at hd ⊢
      rw [xa2 hf h2 h]
      exact qs9 (qm8 hd)
 ·cases hf
noncomputable def qz4 (P:Program) (E:Env) (l:List DOp):Nat→List (Nat×Option Nat)→List (Nat×Nat)→List (Nat×Nat)→Bool :=
 List.rec (motive:=fun _=>Nat→List (Nat×Option Nat)→List (Nat×Nat)→List (Nat×Nat)→Bool)
  (fun pb _ old _=>q49 (fun r=>okS r (pb,none)) old)
  (fun d _ ihl pb past old cur=>bif d.w then (bif q49 (fun r=>okS r (pb,some d.i)) old then ihl d.b ((pb,some d.i)::past) (List.app cur old) [] else false)
   else bif q31 E d.o.op||qd5 P d.o.op then ihl pb past old cur else (bif q49 (fun e=>okS (d.i,d.b) e) past then ihl pb past old ((d.i,d.b)::cur) else false)) l
theorem qt5 {o:Oper} {v:V} {fr fr1:Fr} (k:Fr→DR) (h:fr.put o.dst v=some fr1):dPut o v fr k=k fr1:=by
 unfold dPut
 rw [h]
theorem x84 {a b:Bool} (h:(bif a then b else false)=true):a=true∧b=true:=by cases a <;> simp_all
theorem j05 {all:List Oper} (l:List Oper):∀ {fr fr2:Fr} {h h2:Heap} (i:Nat) (tbl:List Nat) (pb:Nat) (past:List (Nat×Option Nat)) (old cur:List (Nat×Nat)) (hs:List Hp) (rs:List Rc),
  qz4 P E (q50 E all l i tbl) pb past old cur=true→dTx P E ih all l fr h=some (fr2,h2)→(∀ e,e∈hs→(e.pb,e.nx)∈past)→(∀ r,r∈rs→(∀ hq,∃ hz,doOp P E ih r.tm hq r.o=.val r.v hz)∨(r.i,r.b)∈old∨((r.i,r.b)∈cur∧doOp P E ih r.tm h r.o=.val r.v h))→CkP P E ih hs rs →
  ∃ hs' rs',dRun P E ih all (q50 E all l i tbl) fr h pb hs rs none=.done fr2 h2 hs' rs' none∧CkP P E ih hs' rs':=by
 induction l with
 | nil =>
  intro fr fr2 h h2 i tbl pb past old cur hs rs hst hx he hr hck
  cases hx
  refine ⟨⟨pb,h,none⟩::hs,rs,rfl,fun r hrm e hem=>?_⟩
  rcases List.mem_cons.1 hem with rfl | hem
  ·rcases hr r hrm with q | q | ⟨_,q⟩
   ·exact .inr (.inr (q _))
   ·have:=(q40 _ _).1 hst _ q
    unfold okS at this
    rw [Bool.or_eq_true] at this
    exact this.imp id .inl
   ·exact .inr (.inr ⟨_,q⟩)
  ·exact hck r hrm e hem
 | cons o l IH =>
  intro fr fr2 h h2 i tbl pb past old cur hs rs hst hx he hr hck
  change (match dOne P E ih all o fr h with | some (fr',h')=>dTx P E ih all l fr' h' | none=>none)=some (fr2,h2) at hx
  let d:DOp:=⟨o,i,!(q12 E o.op),qd8 tbl o.after.toList,qn5 all o⟩
  change (bif d.w then (bif q49 (fun r=>okS r (pb,some d.i)) old then qz4 P E (q50 E all l (Nat.succ i) (List.app tbl [d.b])) d.b ((pb,some d.i)::past) (List.app cur old) [] else false)
   else bif q31 E d.o.op||qd5 P d.o.op then qz4 P E (q50 E all l (Nat.succ i) (List.app tbl [d.b])) pb past old cur else (bif q49 (fun e=>okS (d.i,d.b) e) past then qz4 P E (q50 E all l (Nat.succ i) (List.app tbl [d.b])) pb past old ((d.i,d.b)::cur) else false))=true at hst
  change ∃ hs' rs',ze8 P E ih all d (dRun P E ih all (q50 E all l (Nat.succ i) (List.app tbl [d.b]))) fr h pb hs rs none=.done fr2 h2 hs' rs' none∧CkP P E ih hs' rs'
  unfold ze8
  simp only [zr2,cond_false]
  unfold dOne at hx
  cases hrd:q12 E o.op with
  | false =>
   have hdw:d.w=true:=by show (!(q12 E o.op))=true;rw [hrd];rfl
   rw [hdw] at hst
   simp only [cond_true] at hst
   obtain ⟨hst1,hst2⟩:=x84 hst
   have hck2:CkP P E ih (⟨pb,h,some d.i⟩::hs) rs:=fun r hrm e hem=>by
    rcases List.mem_cons.1 hem with rfl | hem
    ·rcases hr r hrm with q | q | ⟨_,q⟩
     ·exact .inr (.inr (q _))
     ·have:=(q40 _ _).1 hst1 _ q
      unfold okS at this
      rw [Bool.or_eq_true] at this
      exact this.imp id .inl
     ·exact .inr (.inr ⟨_,q⟩)
    ·exact hck r hrm e hem
   have go:∀ fr' h',dTx P E ih all l fr' h'=some (fr2,h2)→∃ hs' rs',dRun P E ih all (q50 E all l (Nat.succ i) (List.app tbl [d.b])) fr' h' d.b (⟨pb,h,some d.i⟩::hs) rs none=.done fr2 h2 hs' rs' none∧CkP P E ih hs' rs':=fun fr' h' hx' =>
    IH (Nat.succ i) _ d.b _ _ _ _ _ hst2 hx' (fun e hem=>by
     rcases List.mem_cons.1 hem with rfl | hem
     ·simp
     ·simp [he e hem]) (fun r hrm=>by
     rw [List.app_eq,List.mem_append]
     rcases hr r hrm with q | q | ⟨q,_⟩
     ·exact .inl q
     ·exact .inr (.inl (.inr q))
     ·exact .inr (.inl (.inl q))) hck2
   cases hw:j9 all fr o with
   | none=>rw [hw] at hx;cases hx
   | some t =>
    rw [hw] at hx
    cases t with
    | false =>
     simp only [cond_false,hdw,cond_true,qe1] at hx ⊢
     split at hx
     ·rename_i a b hab
      split at hab
      ·rename_i fr' hput
       cases hab
       rw [qt5 _ hput]
       exact go _ _ hx
      ·cases hab
     ·cases hx
    | true =>
     simp only [cond_true] at hx ⊢
     unfold dVal
     split at hx
     ·rename_i a b hab
      split at hab
      ·rename_i v h' hdo
       split at hab
       ·rename_i fr' hput
        cases hab
        rw [hrd] at hx
        have hdo':doOp P E ih fr.tm h d.o=.val v h':=hdo
        simp only [hdo',hdw,cond_true,qe1]
        rw [qt5 _ hput]
        exact go _ _ hx
       ·cases hab
      ·cases hab
     ·cases hx
  | true =>
   have hdw:d.w=false:=by show (!(q12 E o.op))=false;rw [hrd];rfl
   rw [hdw] at hst
   simp only [cond_false] at hst
   cases hw:j9 all fr o with
   | none=>rw [hw] at hx;cases hx
   | some t =>
    rw [hw] at hx
    have hst':∃ cur',qz4 P E (q50 E all l (Nat.succ i) (List.app tbl [d.b])) pb past old cur'=true∧(∀ x,x∈cur→x∈cur')∧((q31 E o.op||qd5 P o.op)=false→(d.i,d.b)∈cur'∧q49 (fun e=>okS (d.i,d.b) e) past=true):=by
     cases hp:(q31 E o.op||qd5 P o.op) with
     | true=>exact ⟨cur,by rw [show (q31 E d.o.op||qd5 P d.o.op)=true from hp] at hst;exact hst,fun _ h=>h,fun q=>by cases q⟩
     | false =>
      rw [show (q31 E d.o.op||qd5 P d.o.op)=false from hp] at hst
      simp only [cond_false] at hst
      obtain ⟨q1,q2⟩:=x84 hst
      exact ⟨(d.i,d.b)::cur,q2,fun x hx=>by simp [hx],fun _=>⟨by simp,q1⟩⟩
    obtain ⟨cur',hst2,hcur,hnew⟩:=hst'
    cases t with
    | false =>
     simp only [cond_false,hdw] at hx ⊢
     split at hx
     ·rename_i a b hab
      split at hab
      ·rename_i fr' hput
       cases hab
       rw [qt5 _ hput]
       exact IH (Nat.succ i) _ pb past old cur' hs rs hst2 hx he (fun r hrm=>(hr r hrm).imp id fun q=>q.imp id fun ⟨q1,q2⟩=>⟨hcur _ q1,q2⟩) hck
      ·cases hab
     ·cases hx
    | true =>
     simp only [cond_true] at hx ⊢
     unfold dVal
     split at hx
     ·rename_i a b hab
      split at hab
      ·rename_i v h' hdo
       split at hab
       ·rename_i fr' hput
        cases hab
        rw [hrd] at hx
        have hdo':doOp P E ih fr.tm h d.o=.val v h':=hdo
        simp only [hdo',hdw,cond_false]
        rw [qt5 _ hput]
        cases hp:q31 E o.op with
        | true =>
         simp only [show q31 E d.o.op=true from hp,cond_true]
         exact IH (Nat.succ i) _ pb past old cur' hs rs hst2 hx he (fun r hrm=>(hr r hrm).imp id fun q=>q.imp id fun ⟨q1,q2⟩=>⟨hcur _ q1,q2⟩) hck
        | false =>
         simp only [show q31 E d.o.op=false from hp,cond_false]
         have hh:=qt1 hrd hdo
         subst hh
         refine IH (Nat.succ i) _ pb past old cur' hs _ hst2 hx he (fun r hrm=>?_) (fun r hrm e hem=>?_)
         ·rcases List.mem_cons.1 hrm with rfl | hrm
          ·cases hfr:qd5 P o.op with
           | true=>exact .inl fun hq=>zy6 hfr hdo hq
           | false=>exact .inr (.inr ⟨(hnew (by rw [hp,hfr];rfl)).1,hdo⟩)
          ·exact (hr r hrm).imp id fun q=>q.imp id fun ⟨q1,q2⟩=>⟨hcur _ q1,q2⟩
         ·rcases List.mem_cons.1 hrm with rfl | hrm
          ·cases hfr:qd5 P o.op with
           | true=>exact .inr (.inr (zy6 hfr hdo _))
           | false =>
            have:=(q40 _ _).1 (hnew (by rw [hp,hfr];rfl)).2 _ (he e hem)
            unfold okS at this
            rw [Bool.or_eq_true] at this
            exact this.imp id .inl
          ·exact hck r hrm e hem
       ·cases hab
      ·cases hab
     ·cases hx
noncomputable def knE (E:Env) (f:FuncId) (gs:List V) (g:V):Env:={ E with prim:=fun f' gs'=>open Classical in if f'=f∧gs'=gs then some g else E.prim f' gs' }
noncomputable def knI (f:FuncId) (args:List V) (h:Heap) (v:V) (h':Heap):Task→Res:=fun t=>open Classical in if t=.call f args h then .ret v h' else .none 0 none
theorem xh0 {f:FuncId} {gs:List V} {g:V} (hP:q86 P E) (hc:y5 P E.glob f gs g):q86 P (knE E f gs g):=by
 intro f' gs' v hv
 unfold knE at hv
 simp only at hv
 split at hv
 ·rename_i e
  cases hv
  obtain ⟨rfl,rfl⟩:=e
  exact hc
 ·exact hP f' gs' v hv
theorem j45 {f:FuncId} {args:List V} {h h':Heap} {v:V} (hP:q86 P E) (hc:∀ {B:Nat} {w0:World} {g:Gh} {w:World} (cs:List Frame) (us:Array Value),W B w0 g h w→x9 E.glob g.S→Rs' g us args→y8 P B w0 g cs f us w (.ret v h')):Snd P E (knI f args h v h'):=by
 have hno:∀ t,t≠.call f args h→knI f args h v h' t=.none 0 none:=fun t ht=>by unfold knI;rw [if_neg ht]
 refine ⟨hP,fun _ _ _ _ _ _ _ _ _=>?_,fun _ _ _ _ _ _ _ _ _=>?_,fun _ _ _ _ _ _ _ _ _ _=>?_,fun {B w0 g h1 w} cs f1 xv9 us hW hG hs=>?_,fun _ _ _ _ _ _ _ _ _ _ _ _=>?_⟩
 ·rw [hno _ (by simp)];trivial
 ·rw [hno _ (by simp)];trivial
 ·rw [hno _ (by simp)];trivial
 ·by_cases e:(Task.call f1 xv9 h1)=.call f args h
  ·cases e
   unfold knI
   rw [if_pos rfl]
   exact hc cs us hW hG hs
  ·rw [hno _ e];trivial
 ·rw [hno _ (by simp)];trivial
noncomputable def noI:Task→Res:=fun _=>.none 0 none
theorem zz6 (hP:q86 P E):Snd P E noI:=⟨hP,fun _ _ _ _ _ _ _ _ _=>trivial,fun _ _ _ _ _ _ _ _ _=>trivial,fun _ _ _ _ _ _ _ _ _ _=>trivial,fun _ _ _ _ _ _ _=>trivial,fun _ _ _ _ _ _ _ _ _ _ _ _=>trivial⟩
theorem q97 {f:FuncId} {gs:List V} {g:V}:(knE E f gs g).prim f gs=some g:=by
 unfold knE
 simp
theorem zd4 {f:FuncId} {args:List V} {h h':Heap} {v:V}:knI f args h v h' (.call f args h)=.ret v h':=by
 unfold knI
 rw [if_pos rfl]
theorem Le.trans {a b c:Fr} (h1:Le a b) (h2:Le b c):Le a c :=
 ⟨h2.fn.trans h1.fn,h2.n.trans h1.n,h2.marks.trans h1.marks,h2.defers.trans h1.defers,h2.round.trans h1.round,h2.dk.trans h1.dk,h2.did.trans h1.did,fun i hi=>by
  rcases h1.slot i (by rw [← h2.n];exact hi) with e | e
  ·exact .inl e
  ·rcases h2.slot i hi with e' | e'
   ·exact .inl (e.trans e')
   ·exact .inr (e.trans e'),fun i hi=>h1.out i (by rw [← h2.n];exact hi)⟩
theorem Le.put {s' s s1':Fr} {d:Option Tmp} {v:V} (hl:Le s' s) (hp:s'.put d v=some s1'):∃ s1,s.put d v=some s1∧Le s1' s1:=by
 cases d with
 | none =>
  change some s'=some s1' at hp
  cases hp
  exact ⟨s,rfl,hl⟩
 | some d =>
  cases hb:Nat.blt d s'.n with
  | false=>rw [Fr.put_no hb] at hp;cases hp
  | true =>
   rw [Fr.put_st hb] at hp
   cases hp
   have hb':Nat.blt d s.n=true:=by rw [hl.n];exact hb
   refine ⟨_,Fr.put_st hb',hl.fn,hl.n,hl.marks,hl.defers,hl.round,hl.dk,hl.did,fun i hi=>?_,fun i hi=>?_⟩
   ·rw [Fr.at_st,Fr.at_st]
    split
    ·exact .inr rfl
    ·exact hl.slot i hi
   ·have hi':s.n≤i:=hi
    have hd:d<s.n:=by rw [Nat.blt_eq] at hb';exact hb'
    rw [Fr.at_st,if_neg (by intro q;subst q;exact absurd hd (Nat.not_lt.2 hi'))]
    exact hl.out i hi'
noncomputable def qc2 (all:List Oper) (s:Fr) (o:Oper):Bool:=q49 (fun t=>Nat.blt t s.n&&!(xj2 (s.at' t))) (List.app (qk7 o.op.operands.toList) (ql7 all o))
theorem xf9 {all:List Oper} {S s:Fr} {o:Oper} (hl:Le S s) (hk:qc2 all S o=true):(∀ G h,w9 P G s.tm h o=w9 P G S.tm h o)∧j9 all s o=j9 all S o:=by
 have hk:=(q40 _ _).1 hk
 have hk':∀ t,t∈qk7 o.op.operands.toList∨t∈ql7 all o→s.tm.get undef t=S.tm.get undef t:=by
  intro t ht
  have:=hk t (by rw [List.app_eq,List.mem_append];exact ht)
  simp only [Bool.and_eq_true,Bool.not_eq_true',Nat.blt_eq] at this
  rcases hl.slot t (by rw [hl.n];exact this.1) with e | e
  ·have h2:=this.2
   rw [e] at h2;cases h2
  ·exact e.symm
 exact ⟨fun G h=>zc4 h fun t ht=>hk' t (.inl ht),z49 fun t ht=>hk' t (.inr ht)⟩
theorem j20 {all:List Oper} {o:Oper} {S s S1:Fr} {h h1:Heap} (hl:Le S s) (hk:qc2 all S o=true) (ho:dOne P E ih all o S h=some (S1,h1)):∃ s1,dOne P E ih all o s h=some (s1,h1)∧Le S1 s1:=by
 obtain ⟨e1,e2⟩:=xf9 (P:=P) hl hk
 have e3:doOp P E ih s.tm h o=doOp P E ih S.tm h o:=by
  unfold doOp
  rw [e1]
 unfold dOne at ho ⊢
 rw [e2,e3]
 cases hw:j9 all S o with
 | none=>rw [hw] at ho;cases ho
 | some t =>
  rw [hw] at ho
  cases t with
  | false =>
   simp only at ho ⊢
   split at ho
   ·rename_i S' hp
    cases ho
    obtain ⟨s1,hp1,hl1⟩:=hl.put hp
    rw [hp1];exact ⟨s1,rfl,hl1⟩
   ·cases ho
  | true =>
   simp only at ho ⊢
   split at ho
   ·split at ho
    ·rename_i S' hp
     cases ho
     obtain ⟨s1,hp1,hl1⟩:=hl.put hp
     rw [hp1];exact ⟨s1,rfl,hl1⟩
    ·cases ho
   ·cases ho
def Dl (P:Program) (E:Env) (ih:Task→Res) (all l:List Oper) (S:Fr) (h:Heap) (K:Fr→Heap→Prop):Prop:=∀ s,Le S s→∃ s2 h2 S2,dTx P E ih all l s h=some (s2,h2)∧Le S2 s2∧K S2 h2
theorem Dl.weak {all l:List Oper} {S S':Fr} {h:Heap} (hl:Le S' S) (hw:Dl P E ih all l S' h K):Dl P E ih all l S h K:=fun s hs=>hw s (hl.trans hs)
noncomputable def drawn (P:Program) (E:Env) (all:List Oper):Bool :=
 P.follows .mixedOrders&&(match qf0 E all with
 | some l=>qz4 P E l 0 [] [] []
 | none=>false)
theorem xd7 {all:List Oper} (h:drawn P E all=true):P.follows .mixedOrders=true∧qf0 E all=some (q50 E all all 0 [])∧qz4 P E (q50 E all all 0 []) 0 [] [] []=true:=by
 unfold drawn at h
 rw [Bool.and_eq_true] at h
 obtain ⟨h1,h⟩:=h
 refine ⟨h1,?_⟩
 split at h
 ·rename_i l hl
  have e:l=q50 E all all 0 []:=by
   unfold qf0 at hl
   obtain ⟨_,hl⟩:=x7 hl rfl
   cases hl;rfl
  subst e
  exact ⟨hl,h⟩
 ·cases h
theorem Wc.drawnG {id:Nat} {ops:Array Oper} {s:Fr} {h:Heap} {E':Env} (hE:E'.glob=E.glob) (hS:Fine P E→Snd P E' ih) (hd:drawn P E' ops.toList=true) (hw:Dl P E' ih ops.toList (ops.toList.drop 0) s h K):Wc P E (.region id ops true) s h K X N:=by
 intro hF B w0 g0 g w a b k cs hD hg hW hG hf
 obtain ⟨h1,h2,h3⟩:=xd7 hd
 obtain ⟨s2,hh2,S2,hx,hl,hk⟩:=hw s ⟨rfl,rfl,rfl,rfl,rfl,rfl,rfl,fun _ _=>.inr rfl,fun i hi=>hf.slots.none i hi⟩
 obtain ⟨hs',rs',hr,hck⟩:=j05 ops.toList 0 [] 0 [] [] [] [] [] h3 hx (fun e he=>by cases he) (fun r hr=>by cases hr) (fun r hr=>by cases hr)
 obtain ⟨g',a',w',q1,q2,q3,q4⟩:=zo5 (hS hF) (k:=k) (cs:=cs) (id:=id) hW (by rw [hE];exact hG.mono hg.ext.S) hf h1 h2 hr (.inr hck)
 exact ⟨.normal,S2,hh2,g',a',w',hg.trans q1,q2,hl.ok q3,q4,hk⟩
theorem Wc.drawn0 {id:Nat} {ops:Array Oper} {s:Fr} {h:Heap} (hd:AM.drawn P E ops.toList=true) (hw:Dl P E noI ops.toList (ops.toList.drop 0) s h K):Wc P E (.region id ops true) s h K X N :=
 Wc.drawnG rfl (fun hF=>zz6 hF.prim) hd hw
theorem Wc.drawnP {id:Nat} {ops:Array Oper} {s:Fr} {h:Heap} (f:FuncId) (gs:List V) (g:V) (hc:Cp P E f gs g) (hd:AM.drawn P (knE E f gs g) ops.toList=true) (hw:Dl P (knE E f gs g) noI ops.toList (ops.toList.drop 0) s h K):Wc P E (.region id ops true) s h K X N :=
 Wc.drawnG (E':=knE E f gs g) rfl (fun hF=>zz6 (xh0 hF.prim (hc hF))) hd hw
theorem Wc.drawnS {id:Nat} {ops:Array Oper} {s:Fr} {h:Heap} (f:FuncId) (gs:List V) (g:V) (hc:Cp P E f gs g) (f1:FuncId) (args:List V) (h1:Heap) (v:V) (h2:Heap) (hc1:Came P E f1 args h1 v h2) (hd:AM.drawn P (knE E f gs g) ops.toList=true) (hw:Dl P (knE E f gs g) (knI f1 args h1 v h2) ops.toList (ops.toList.drop 0) s h K):Wc P E (.region id ops true) s h K X N :=
 Wc.drawnG (E':=knE E f gs g) rfl (fun hF=>j45 (xh0 hF.prim (hc hF)) (fun cs us hW hG hs=>hc1 hF cs us hW hG hs)) hd hw
noncomputable def x79 (E:Env) (all:List Oper) (i:Nat):Bool :=
 match List.at all i with
 | some o=>!(q12 E o.op)
 | none=>false
theorem Dl.done {all:List Oper} {S:Fr} {h:Heap} (j:Nat) (hj:Nat.ble (List.len all) j=true) (hk:K S h):Dl P E ih all (all.drop j) S h K:=by
 intro s hs
 rw [Nat.ble_eq,List.len_eq] at hj
 rw [List.drop_eq_nil_of_le hj]
 exact ⟨s,h,S,rfl,hs,hk⟩
theorem Dl.one {all l:List Oper} {o:Oper} {S S1:Fr} {h h1:Heap} (hk:qc2 all S o=true) (ho:dOne P E ih all o S h=some (S1,h1)) (hr:Dl P E ih all l S1 h1 K):Dl P E ih all (o::l) S h K:=by
 intro s hs
 obtain ⟨s1,e1,hl1⟩:=j20 hs hk ho
 obtain ⟨s2,h2,S2,hx,hl2,hkk⟩:=hr s1 hl1
 refine ⟨s2,h2,S2,?_,hl2,hkk⟩
 change (match dOne P E ih all o s h with | some (fr',h')=>dTx P E ih all l fr' h' | none=>none)=_
 rw [e1];exact hx
noncomputable def litD (P:Program) (G:Nat→Option V) (tm:T V) (h:Heap) (o:Oper):So :=
 match o.op with
 | .buildSlice _ _ _=>(match w9 P G tm h o with
  | .val v h'=>.val v h'
  | _=>.no)
 | _=>z97 true P G tm h o
theorem j15 (G:Nat→Option V) (tm:T V) (h:Heap) (o:Oper):So.ok (w9 P G tm h o) (litD P G tm h o):=by
 by_cases hb:∃ t len ps,o.op=.buildSlice t len ps
 ·obtain ⟨t,len,ps,hb⟩:=hb
  unfold litD
  rw [hb]
  simp only
  cases w9 P G tm h o with
  | val v h'=>rfl
  | _=>trivial
 ·have hb':∀ t len ps,o.op≠.buildSlice t len ps:=fun t len ps e=>hb ⟨t,len,ps,e⟩
  have e1:litD P G tm h o=z97 true P G tm h o:=by
   unfold litD
   split
   ·rename_i t len ps e;exact absurd e (hb' t len ps)
   ·rfl
  have e2:w9 P G tm h o=q36 true P G tm h o:=by
   rw [q00 hb']
   unfold w9
   split
   ·rename_i t len ps e;exact absurd e (hb' t len ps)
   ·rfl
  rw [e1,e2]
  exact x10 (P:=P) true G tm h o
noncomputable def putD (E:Env) (s:Fr) (o:Oper) (v:V) (h h':Heap) (φ:List Prop):Option (Fr×Heap×List Prop) :=
 match s.put o.dst v with
 | some s1=>some (s1,(bif q12 E o.op then h else h'),φ)
 | none=>none
noncomputable def zg5 (P:Program) (E:Env) (all:List Oper) (o:Oper) (s:Fr) (h:Heap):Option (Fr×Heap×List Prop) :=
 bif qc2 all s o then
 match j9 all s o with
 | none=>none
 | some t=>bif t then
   (match litD P E.glob s.tm h o with
   | .val v h1=>putD E s o v h h1 []
   | .obl v h1 φ=>putD E s o v h h1 [φ]
   | .skip h1=>putD E s o undef h h1 []
   | .no=>none)
  else (match s.put o.dst undef with
   | some s1=>some (s1,h,[])
   | none=>none)
 else none
noncomputable def runD (P:Program) (E:Env) (all:List Oper) (n:Nat):List Oper→Fr→Heap→Option (Fr×Heap×List Prop) :=
 Nat.rec (motive:=fun _=>List Oper→Fr→Heap→Option (Fr×Heap×List Prop)) (fun _ s h=>some (s,h,[]))
  (fun _ ih l s h=>match l with
   | []=>none
   | o::l=>match zg5 P E all o s h with
    | none=>none
    | some (s1,h1,φ)=>match ih l s1 h1 with
     | none=>none
     | some (s2,h2,φs)=>some (s2,h2,φ++φs)) n
theorem z75 {α:Type} {b:Bool} {x:Option α} {y:α} (h:(bif b then x else none)=some y):b=true∧x=some y:=by cases b <;> simp_all
theorem z61 {s:Fr} {o:Oper} {v:V} {h h':Heap} {φ:List Prop} {r:Fr×Heap×List Prop} (hp:putD E s o v h h' φ=some r):∃ s1,s.put o.dst v=some s1∧r=(s1,(bif q12 E o.op then h else h'),φ):=by
 unfold putD at hp
 split at hp
 ·rename_i s1 e;cases hp;exact ⟨s1,e,rfl⟩
 ·cases hp
theorem xu6 {all:List Oper} {o:Oper} {s s1:Fr} {h h1:Heap} {φ:List Prop} (hs:zg5 P E all o s h=some (s1,h1,φ)) (hφ:Alls φ):qc2 all s o=true∧SameB s s1∧dOne P E ih all o s h=some (s1,h1):=by
 unfold zg5 at hs
 obtain ⟨hkn,hs⟩:=z75 hs
 refine ⟨hkn,?_⟩
 unfold dOne
 cases hw:j9 all s o with
 | none=>rw [hw] at hs;cases hs
 | some t =>
  rw [hw] at hs
  cases t with
  | false =>
   simp only [cond_false] at hs ⊢
   split at hs
   ·rename_i s1' hp;cases hs;exact ⟨.put hp,rfl⟩
   ·cases hs
  | true =>
   simp only [cond_true] at hs ⊢
   have hok:=j15 (P:=P) E.glob s.tm h o
   have fin:∀ v h',w9 P E.glob s.tm h o=.val v h'∨(w9 P E.glob s.tm h o=.skip h'∧v=undef)→doOp P E ih s.tm h o=.val v h':=fun v h' q=>by
    unfold doOp
    rcases q with q | ⟨q,rfl⟩ <;> rw [q]
   cases ho:litD P E.glob s.tm h o with
   | val v h' =>
    rw [ho] at hs hok
    obtain ⟨s1',hp,e⟩:=z61 hs
    cases e
    rw [fin v h' (.inl hok)]
    simp only [hp]
    exact ⟨.put hp,trivial⟩
   | obl v h' ψ =>
    rw [ho] at hs hok
    obtain ⟨s1',hp,e⟩:=z61 hs
    cases e
    rw [fin v h' (.inl (hok hφ.1))]
    simp only [hp]
    exact ⟨.put hp,trivial⟩
   | skip h' =>
    rw [ho] at hs hok
    obtain ⟨s1',hp,e⟩:=z61 hs
    cases e
    rw [fin undef h' (.inr ⟨hok,rfl⟩)]
    simp only [hp]
    exact ⟨.put hp,trivial⟩
   | no=>rw [ho] at hs;cases hs
theorem j00 {all:List Oper} (n:Nat):∀ {l:List Oper} {s s2:Fr} {h h2:Heap} {φs:List Prop},runD P E all n l s h=some (s2,h2,φs)→Alls φs→SameB s s2∧∀ K,Dl P E ih all (l.drop n) s2 h2 K→Dl P E ih all l s h K:=by
 induction n with
 | zero =>
  intro l s s2 h h2 φs hr _
  change some (s,h,[])=some (s2,h2,φs) at hr
  cases hr
  exact ⟨.refl _,fun K hk=>hk⟩
 | succ n IH =>
  intro l s s2 h h2 φs hr hφ
  cases l with
  | nil=>cases hr
  | cons o l =>
   change (match zg5 P E all o s h with
    | none=>none
    | some (s1,h1,φ)=>match runD P E all n l s1 h1 with
     | none=>none
     | some (s2,h2,φs)=>some (s2,h2,φ++φs))=some (s2,h2,φs) at hr
   cases hs:zg5 P E all o s h with
   | none=>rw [hs] at hr;cases hr
   | some p =>
    obtain ⟨s1,h1,φ⟩:=p
    rw [hs] at hr
    simp only at hr
    cases hq:runD P E all n l s1 h1 with
    | none=>rw [hq] at hr;cases hr
    | some q =>
     obtain ⟨s2',h2',φs'⟩:=q
     rw [hq] at hr
     cases hr
     obtain ⟨a1,a2⟩:=Alls.app hφ
     obtain ⟨b1,b2,b3⟩:=xu6 (ih:=ih) hs a1
     obtain ⟨c1,c2⟩:=IH hq a2
     exact ⟨b2.trans c1,fun K hk=>Dl.one b1 b3 (c2 K hk)⟩
theorem Dl.batch {all:List Oper} {b:Fr} {L:List (Nat×V)} {h:Heap} (i j:Nat) (ks:List Nat) (L':List (Nat×V)) (h':Heap) (φs:List Prop) (hb:sumB ks (runD P E all (j-i) (all.drop i) (b.on L) h)=some (L',h',φs)) (hij:Nat.ble i j=true) (ho:Alls φs) (hk:Dl P E ih all (all.drop j) (b.on L') h' K):Dl P E ih all (all.drop i) (b.on L) h K:=by
 obtain ⟨s',hr,hL⟩:=z67 hb
 rw [Nat.ble_eq] at hij
 obtain ⟨h1,h2⟩:=j00 (ih:=ih) (j-i) hr ho
 refine h2 K ?_
 rw [List.drop_drop,show i+(j-i)=j by omega]
 exact hk.weak (((SameB.on b L).trans h1).keep hL)
noncomputable def zr9 (E:Env) (all:List Oper) (i:Nat) (s:Fr):Option (TypeId×V×Option Tmp) :=
 match List.at all i with
 | none=>none
 | some o=>bif qc2 all s o then (match j9 all s o with
  | some true=>(match o.op with
   | .load t x=>(match ev E.glob s.tm x with
    | some a=>some (t,a,o.dst)
    | none=>none)
   | _=>none)
  | _=>none) else none
theorem Dl.load {all:List Oper} {b:Fr} {L:List (Nat×V)} {h:Heap} {t:TypeId} {a:V} {d:Option Tmp} (i:Nat) (v:V) (ks:List Nat) (L':List (Nat×V)) (ho:zr9 E all i (b.on L)=some (t,a,d)) (hv:AM.load P h t a=some v) (hp:sumP ks ((b.on L).put d v)=some L') (hk:Dl P E ih all (all.drop (i+1)) (b.on L') h K):Dl P E ih all (all.drop i) (b.on L) h K:=by
 unfold zr9 at ho
 rw [List.at_eq] at ho
 cases hoa:all[i]? with
 | none=>rw [hoa] at ho;cases ho
 | some o =>
  rw [hoa] at ho
  simp only at ho
  obtain ⟨hkn,ho⟩:=z75 ho
  split at ho
  ·rename_i hw
   split at ho
   ·rename_i t' x hop
    split at ho
    ·rename_i a' hev
     cases ho
     obtain ⟨s1,hp1,hL⟩:=q14 hp
     obtain ⟨hi,e⟩:=List.getElem?_eq_some_iff.1 hoa
     rw [List.drop_eq_getElem_cons hi,e]
     refine Dl.one (S1:=s1) (h1:=h) hkn ?_ (hk.weak (((SameB.on b L).trans (.put hp1)).keep hL))
     have e1:w9 P E.glob (b.on L).tm h o=.val v h:=by
      have e2:w9 P E.glob (b.on L).tm h o=oper P E.glob (b.on L).tm h o:=by
       unfold w9
       rw [hop]
      rw [e2]
      unfold oper
      rw [hop,zj1,zw8,hev]
      simp only [hv]
      rfl
     unfold dOne doOp
     rw [hw,e1]
     simp only [hp1]
     cases q12 E o.op <;> rfl
    ·cases ho
   ·cases ho
  ·cases ho
noncomputable def z78 (P:Program) (E:Env) (all:List Oper) (i:Nat) (s:Fr) (h:Heap):Option (FuncId×List V×Heap×Option Tmp) :=
 match List.at all i with
 | none=>none
 | some o=>bif qc2 all s o then (match j9 all s o with
  | some true=>(match w9 P E.glob s.tm h o with
   | .call f args h1=>some (f,args,h1,o.dst)
   | _=>none)
  | _=>none) else none
theorem zh8 {all:List Oper} {i:Nat} {s:Fr} {h h1:Heap} {f:FuncId} {args:List V} {d:Option Tmp} (hc:z78 P E all i s h=some (f,args,h1,d)):∃ o,all.drop i=o::all.drop (i+1)∧qc2 all s o=true∧j9 all s o=some true∧w9 P E.glob s.tm h o=.call f args h1∧o.dst=d:=by
 unfold z78 at hc
 rw [List.at_eq] at hc
 cases ho:all[i]? with
 | none=>rw [ho] at hc;cases hc
 | some o =>
  rw [ho] at hc
  simp only at hc
  obtain ⟨hk,hc⟩:=z75 hc
  split at hc
  ·rename_i hw
   split at hc
   ·rename_i f' a' h' hr
    cases hc
    obtain ⟨hi,e⟩:=List.getElem?_eq_some_iff.1 ho
    exact ⟨o,by rw [List.drop_eq_getElem_cons hi,e],hk,hw,hr,rfl⟩
   ·cases hc
  ·cases hc
theorem Dl.callP {all:List Oper} {b:Fr} {L:List (Nat×V)} {h h1:Heap} {f:FuncId} {gs:List V} {g v:V} {d:Option Tmp} (i:Nat) (ks:List Nat) (L':List (Nat×V)) (ho:z78 P E all i (b.on L) h=some (f,gs,h1,d)) (hh:h1=h) (hs:E.shared f=false) (hg:x2 (x4 3) gs=true) (hp:E.prim f gs=some g) (hv:qg7 g=v) (hput:sumP ks ((b.on L).put d v)=some L') (hk:Dl P E ih all (all.drop (i+1)) (b.on L') h K):Dl P E ih all (all.drop i) (b.on L) h K:=by
 obtain ⟨o,e,h1',h2,h3,h4⟩:=zh8 ho
 obtain ⟨s1,hp1,hL⟩:=q14 hput
 subst hh hv h4
 rw [e]
 refine Dl.one (S1:=s1) (h1:=h1) h1' ?_ (hk.weak (((SameB.on b L).trans (.put hp1)).keep hL))
 unfold dOne doOp
 rw [h2,h3]
 have e5:q26 E ih true f gs h1=.ret (qg7 g) h1:=by
  unfold q26
  rw [hs]
  change q39 E ih f gs h1=_
  unfold q39
  rw [hg]
  simp only [cond_true,hp]
  rfl
 simp only [e5,orOf,hp1]
 cases q12 E o.op <;> rfl
theorem Dl.callS {all:List Oper} {b:Fr} {L:List (Nat×V)} {h h1 h2:Heap} {f:FuncId} {args:List V} {v:V} {d:Option Tmp} (i:Nat) (ks:List Nat) (L':List (Nat×V)) (ho:z78 P E all i (b.on L) h=some (f,args,h1,d)) (hs:E.shared f=true) (hpr:E.pubRet f=false) (hw:x79 E all i=true) (hi:ih (.call f args h1)=.ret v h2) (hput:sumP ks ((b.on L).put d v)=some L') (hk:Dl P E ih all (all.drop (i+1)) (b.on L') h2 K):Dl P E ih all (all.drop i) (b.on L) h K:=by
 obtain ⟨o,e,h1',hw',h3,h4⟩:=zh8 ho
 obtain ⟨s1,hp1,hL⟩:=q14 hput
 subst h4
 have hr:q12 E o.op=false:=by
  have:(all.drop i)[0]?=some o:=by rw [e];rfl
  rw [List.getElem?_drop] at this
  have:all[i]?=some o:=by simpa using this
  unfold x79 at hw
  rw [List.at_eq,this] at hw
  simpa using hw
 rw [e]
 refine Dl.one (S1:=s1) (h1:=h2) h1' ?_ (hk.weak (((SameB.on b L).trans (.put hp1)).keep hL))
 unfold dOne doOp
 rw [hw',h3]
 have e5:q26 E ih true f args h1=.ret v h2:=by
  unfold q26
  rw [hs]
  change qg5 E ih f args h1=_
  unfold qg5
  rw [hpr]
  exact hi
 simp only [e5,orOf,hp1,hr,cond_false]
end Go.AM
