/-
  AN ABSTRACT MACHINE that runs a program over plain data, and a second one that tells what calls come to, are sound against the model (a part of it). No condition but what each theorem says.
-/
import Derived.AtR
import Derived.Defers
import Derived.KernelRfl
import Derived.Lib.LaidTab
import Derived.Orders
import Derived.Test.YtcfdhkmbooipbaaGreatDoorTt2
namespace Go.AM
noncomputable section
open Go.RowKit
def Gh.data (S:Nat→Nat→Option Value):Gh:=⟨fun _=>none,fun _=>none,S⟩
theorem Ext.data {S:Nat→Nat→Option Value} {g:Gh} (h:∀ b o v,S b o=some v→g.S b o=some v):Ext (Gh.data S) g :=
 ⟨h,fun _ _ e=>(by cases e),fun _ _ _ e=>(by cases e)⟩
def jD0 (S:Nat→Nat→Option Value) (w:World):Prop:=∀ b o v,S b o=some v→look w b o=some v
structure More (bs:List Nat) (S S':Nat→Nat→Option Value):Prop where
 more:∀ b o v,S b o=some v→S' b o=some v
 keep:∀ b,b∈bs→∀ o v,S' b o=some v→S b o=some v
theorem RowOk.more {S S':Nat→Nat→Option Value} {bs:List Nat} (h:More bs S S') {w:World} {b k sz ty pub:Nat} {cap:Option Nat} {es:List V} {C:Array Value} {fr:Nat×Nat} (hb:b∈bs) (r:RowOk (Gh.data S) w b k sz ty pub cap es C fr):RowOk (Gh.data S') w b k sz ty pub cap es C fr :=
 ⟨r.at_,r.csize,r.pos,r.fits,r.pubs,r.caps,r.elems,fun i e j x he hx=>(match r.cells i e j x he hx with | ⟨v,p,q,s⟩=>⟨v,p,q,s.mono (Ext.data h.more)⟩),fun o v hv=>r.shut o v (h.keep b hb o v hv),r.ice⟩
inductive RR (S:Nat→Nat→Option Value) (w:World):Value→V→List Nat→Prop
 | data {v:Value} {x:V} (h:GR S v x):RR S w v x []
 | whole {b k sz ty pub:Nat} {cap:Option Nat} {es:List V} {C:Array Value} {fr:Nat×Nat} {a:Addr} (h:RowOk (Gh.data S) w b k sz ty pub cap es C fr) (hg:∀ (i:Nat) e (j:Nat) x,es[i]?=some e→e.cells[j]?=some x→∃ v,C[i*sz+j]?=some v∧GR S v x) (hb:a.block=b) (hs:a.spot=none) (ho:0<k→a.off=0) :
  RR S w (.slice (some a) es.length k) (.fsl ty sz pub es cap) [b]
theorem RR.more {S S':Nat→Nat→Option Value} {w:World} {v:Value} {x:V} {bs cs:List Nat} (h:RR S w v x bs) (hm:More cs S S') (hs:∀ b,b∈bs→b∈cs):RR S' w v x bs:=by
 cases h with
 | data h=>exact .data (h.mono hm.more)
 | whole h hg hb hs' ho=>exact .whole (h.more hm (hs _ (by simp))) (fun i e j x p q=>(match hg i e j x p q with | ⟨v,a,b⟩=>⟨v,a,b.mono hm.more⟩)) hb hs' ho
inductive RL (S:Nat→Nat→Option Value) (w:World):List Value→List V→List Nat→Prop
 | nil:RL S w [] [] []
 | cons {v:Value} {vs:List Value} {x:V} {xs:List V} {b bs:List Nat} (h:RR S w v x b) (t:RL S w vs xs bs):RL S w (v::vs) (x::xs) (b++bs)
theorem RL.more {S S':Nat→Nat→Option Value} {w:World} {v:List Value} {x:List V} {bs cs:List Nat} (h:RL S w v x bs) (hm:More cs S S'):(∀ b,b∈bs→b∈cs)→RL S' w v x bs:=by
 induction h with
 | nil=>intro _;exact .nil
 | cons h t ih=>intro hs;exact .cons (h.more hm fun b hb=>hs b (by simp [hb])) (ih fun b hb=>hs b (by simp [hb]))
inductive RP (S:Nat→Nat→Option Value) (w:World):Value→V→List Nat→Prop
 | one {v:Value} {x:V} {bs:List Nat} (hx:∀ l,x≠.agg l) (h:RR S w v x bs):RP S w v x bs
 | agg {cs:Array Value} {xs:List V} {bs:List Nat} (h1:∀ (i:Nat) v,cs[i]?=some v→v.oneCell'=true) (h:RL S w cs.toList xs bs):RP S w (.agg cs) (.agg xs) bs
theorem RP.more {S S':Nat→Nat→Option Value} {w:World} {v:Value} {x:V} {bs cs:List Nat} (h:RP S w v x bs) (hm:More cs S S') (hs:∀ b,b∈bs→b∈cs):RP S' w v x bs:=by
 cases h with
 | one hx h=>exact .one hx (h.more hm hs)
 | agg h1 h=>exact .agg h1 (h.more hm hs)
inductive RPL (S:Nat→Nat→Option Value) (w:World):List Value→List V→List Nat→Prop
 | nil:RPL S w [] [] []
 | cons {v:Value} {vs:List Value} {x:V} {xs:List V} {b bs:List Nat} (h:RP S w v x b) (t:RPL S w vs xs bs):RPL S w (v::vs) (x::xs) (b++bs)
theorem RPL.more {S S':Nat→Nat→Option Value} {w:World} {v:List Value} {x:List V} {bs cs:List Nat} (h:RPL S w v x bs) (hm:More cs S S'):(∀ b,b∈bs→b∈cs)→RPL S' w v x bs:=by
 induction h with
 | nil=>intro _;exact .nil
 | cons h t ih=>intro hs;exact .cons (h.more hm fun b hb=>hs b (by simp [hb])) (ih fun b hb=>hs b (by simp [hb]))
inductive RA (S:Nat→Nat→Option Value) (w:World):Value→V→List Nat→Prop
 | one {v:Value} {x:V} {bs:List Nat} (hx:∀ l,x≠.tup l) (h:RP S w v x bs):RA S w v x bs
 | tup {cs:Array Value} {xs:List V} {bs:List Nat} (h:RPL S w cs.toList xs bs):RA S w (.tuple cs) (.tup xs) bs
def jg0 (g:Gh) (seen bs:List Nat):Prop:=∀ b,b∈bs→∃ r,r∈seen∧∃ y,g.mu r=some y∧y.1=b
structure RetOk (B:Ns) (w0:World) (w:World) (g:Gh) (h h':Heap) (seen seen':List Nat) (BS bs:List Nat) (S:Nat→Nat→Option Value):Prop where
 pub:PubOk seen B w0 g h h' w S
 cover:jg0 g seen' (bs++BS)
 nodup:bs.Nodup
 new:∀ b,b∈bs→b∉BS
 high:∀ b,b∈bs→¬ B b∧b<w.heap.size
 sub:∀ r,r∈seen→r∈seen'
theorem Kept.weak {seen seen':List Nat} {g:Gh} {S:Nat→Nat→Option Value} {h h':Heap} (k:Kept seen' g S h h') (hs:∀ r,r∈seen→r∈seen'):Kept seen g S h h' :=
 ⟨k.n,fun r hr=>k.row r (hs r hr),fun r hr=>k.shut r (hs r hr),k.same,k.mp,k.dead⟩
theorem PubOk.weak {seen seen':List Nat} {B:Ns} {w0:World} {g:Gh} {h h':Heap} {w:World} {S:Nat→Nat→Option Value} (k:PubOk seen' B w0 g h h' w S) (hs:∀ r,r∈seen→r∈seen'):PubOk seen B w0 g h h' w S:=⟨k.grown,k.world,k.kept.weak hs⟩
theorem PubOk.more {seen:List Nat} {B:Ns} {w0:World} {g:Gh} {h h':Heap} {w:World} {S:Nat→Nat→Option Value} (k:PubOk seen B w0 g h h' w S) {bs:List Nat} (hc:jg0 g seen bs):More bs g.S S :=
 ⟨k.grown.ext.S,fun b hb o v hv=>by
  obtain ⟨r,hr,y,hy,rfl⟩:=hc b hb
  exact k.kept.shut r hr y hy o v hv⟩
theorem RetOk.trans {B:Ns} {w0:World} {w:World} {g:Gh} {h h' h'':Heap} {s s' s'':List Nat} {BS b1 b2:List Nat} {S S':Nat→Nat→Option Value} (p:RetOk B w0 w g h h' s s' BS b1 S) (q:RetOk B w0 w (g.say S) h' h'' s' s'' (b1++BS) b2 S') :
 RetOk B w0 w g h h'' s s'' BS (b1++b2) S' where
 pub:=p.pub.trans (q.pub.weak p.sub)
 cover:=fun b hb=>by
  have:b∈b2++(b1++BS):=by simp at hb ⊢;rcases hb with h | h | h <;> simp [h]
  exact q.cover b this
 nodup:=by
  rw [List.nodup_append]
  refine ⟨p.nodup,q.nodup,fun a ha b hb e=>?_⟩
  subst e
  exact q.new a hb (by simp [ha])
 new:=fun b hb=>by
  rw [List.mem_append] at hb
  rcases hb with hb | hb
  ·exact p.new b hb
  ·exact fun hB=>q.new b hb (by simp [hB])
 high:=fun b hb=>by
  rw [List.mem_append] at hb
  rcases hb with hb | hb
  ·exact p.high b hb
  ·exact q.high b hb
 sub:=fun r hr=>q.sub r (p.sub r hr)
theorem RetOk.more {B:Ns} {w0:World} {w:World} {g:Gh} {h h' h'':Heap} {s s' s'':List Nat} {BS b1 b2:List Nat} {S S':Nat→Nat→Option Value} (p:RetOk B w0 w g h h' s s' BS b1 S) (q:RetOk B w0 w (g.say S) h' h'' s' s'' (b1++BS) b2 S'):More b1 S S' :=
 let m:=q.pub.more (bs:=b1++BS) p.cover
 ⟨m.more,fun b hb=>m.keep b (by simp [hb])⟩
theorem RetOk.refl {B:Ns} {w0:World} {w:World} {g:Gh} {h:Heap} {s BS:List Nat} (hW:W B w0 g h w) (hc:jg0 g s BS):RetOk B w0 w g h h s s BS [] g.S :=
 ⟨.refl hW,hc,by simp,by simp,by simp,fun _ h=>h⟩
theorem RetOk.data {B:Ns} {w0:World} {w:World} {g:Gh} {h h':Heap} {s BS:List Nat} {S:Nat→Nat→Option Value} (hp:PubOk s B w0 g h h' w S) (hc:jg0 g s BS):RetOk B w0 w g h h' s s BS [] S :=
 ⟨hp,hc,by simp,by simp,by simp,fun _ h=>h⟩
theorem jW1 {B:Ns} {w0:World} {g:Gh} {h:Heap} {w:World} {v:Value} {x x':V} {h':Heap} {seen seen' BS:List Nat} (hW:W B w0 g h w) (hR:R g v x) (hc:jg0 g seen BS) (hr:retV h seen x=some (x',h',seen')) :
 ∃ S bs,RetOk B w0 w g h h' seen seen' BS bs S∧RR S w v x' bs∧((∀ l,x≠.agg l)→∀ l,x'≠.agg l)∧((∀ l,x≠.tup l)→∀ l,x'≠.tup l):=by
 have dat:(match pub seen depth h x with | some (v',h')=>some (v',h',seen) | none=>none)=some (x',h',seen')→∃ S bs,RetOk B w0 w g h h' seen seen' BS bs S∧RR S w v x' bs∧((∀ l,x≠.agg l)→∀ l,x'≠.agg l)∧((∀ l,x≠.tup l)→∀ l,x'≠.tup l):=by
  intro he
  split at he
  ·rename_i y h1 hp
   cases he
   obtain ⟨S,p,q,s⟩:=ju0 seen depth hW hR hp
   refine ⟨S,[],.data p hc,.data q,s.2.2,fun hx l e=>?_⟩
   subst e
   have hf:=s.1
   cases x with
   | tup l=>exact hx l rfl
   | fsl=>exact hR.fsl_inv
   | _=>cases hf
  ·cases he
 unfold retV at hr
 split at hr
 ·rename_i r ver o n c
  split at hr
  ·rename_i ver' ty sz pub0 cap es ho
   cases hb:(Nat.beq ver ver'&&Nat.beq o 0&&Nat.beq n (List.len es)&&GE0 c&&!(qB0 r seen)) with
   | false =>
    rw [hb] at hr
    exact dat hr
   | true =>
    rw [hb] at hr
    simp only [cond_true] at hr
    simp only [Bool.and_eq_true,Bool.not_eq_true',Nat.beq_eq,List.len_eq] at hb
    obtain ⟨⟨⟨⟨hv1,ho0⟩,hn0⟩,hc0⟩,hseen⟩:=hb
    have hn0:n=es.length:=hn0
    have ho0:o=0:=ho0
    have hv1:ver=ver':=hv1
    subst hv1;subst ho0;subst hn0
    have hc1:c=none:=by cases c with | none=>rfl | some _=>cases hc0
    subst hc1
    split at hr
    ·rename_i es' h1 hes
     split at hr
     ·rename_i v2 t2 s2 pb2 c2 e2 hr2
      cases hr
      obtain ⟨hv,b,k,C,fr,hm,hrow,hlt⟩:=hW.row ho
      obtain ⟨S1,k1,n1,g1,s1⟩:=jc0 (ju0 (r::seen) depth) es (vs:=(List.range es.length).map fun i=>jP0 C (i*sz) (es.getD i undef)) hW (by simp) (fun i u e hu he=>by
       have hi:=qd0 he
       simp only [List.getElem?_map] at hu
       rw [List.getElem?_range hi] at hu
       simp only [Option.map_some,Option.some.injEq] at hu
       subst hu
       have:es.getD i undef=e:=by simp [List.getD_eq_getElem?_getD,he]
       rw [this]
       exact zn1 fun j x hx=>hrow.cells _ _ _ _ he hx) hes
      have hsame:=k1.kept.row r (by simp)
      rw [ho,hr2] at hsame
      cases hsame
      have hns:r∉seen:=fun e=>by rw [(YR0 r seen).2 e] at hseen;cases hseen
      obtain ⟨a,cp,vr',rfl,hv',hle',hn,hcc,hpt⟩:=hR.sl_inv
      rw [hv] at hv';cases hv'
      obtain ⟨k2,sz2,hm2,hoff,hs,hk,hck⟩:=hpt rfl
      rw [hm] at hm2
      simp only [Option.some.injEq,Prod.mk.injEq] at hm2
      obtain ⟨hb',rfl,rfl⟩:=hm2
      have hcap:cp=k:=by have:=hck rfl;omega
      subst hcap
      have hB:=hW.high r _ hm
      have hshut:=k1.kept.shut r (by simp) _ hm
      have hel':∀ (i:Nat) e',es'[i]?=some e'→∃ e,es[i]?=some e∧Shape e e'∧GR S1 (jP0 C (i*sz) e) e':=by
       intro i e' he'
       have hi:i<es.length:=by rw [← n1];exact qd0 he'
       obtain ⟨e,he⟩:=qr0 es i hi
       refine ⟨e,he,s1 i e e' he he',?_⟩
       refine g1 i _ e' ?_ he'
       simp only [List.getElem?_map]
       rw [List.getElem?_range hi]
       simp [List.getD_eq_getElem?_getD,he]
      have hrow':RowOk (Gh.data S1) w b cp sz ty pub0 cap es' C fr:=by
       refine ⟨hrow.at_,hrow.csize,hrow.pos,by rw [n1];exact hrow.fits,by rw [n1];exact hrow.pubs,hrow.caps,fun i e' he'=>?_,fun i e' j x he' hx=>?_,fun o v hv=>hrow.shut o v (hshut o v hv),hrow.ice⟩
       ·obtain ⟨e,he,hsh,_⟩:=hel' i e' he'
        rw [hsh.1,hsh.2.1];exact hrow.elems _ _ he
       ·obtain ⟨e,he,hsh,hgr⟩:=hel' i e' he'
        obtain ⟨y,hy⟩:=qr0 e.cells j (by rw [← hsh.2.1];exact qd0 hx)
        obtain ⟨u,p,q,_⟩:=hrow.cells _ _ _ _ he hy
        have:=KG0 hsh hgr j x hx
        rw [yN0 p] at this
        exact ⟨u,p,q,.gnd this⟩
      refine ⟨S1,[b],⟨k1.weak (fun r hr=>by simp [hr]),?_,by simp,?_,?_,fun r hr=>by simp [hr]⟩,?_,⟨fun _ vs e=>(by cases e),fun _ vs e=>(by cases e)⟩⟩
      ·intro q hq
       simp only [List.cons_append,List.nil_append,List.mem_cons] at hq
       rcases hq with rfl | hq
       ·exact ⟨r,by simp,_,hm,rfl⟩
       ·obtain ⟨r',h1,h2⟩:=hc q hq
        exact ⟨r',by simp [h1],h2⟩
      ·intro q hq hB'
       simp only [List.mem_cons,List.not_mem_nil,or_false] at hq
       subst hq
       obtain ⟨r',h1,y,h2,h3⟩:=hc q hB'
       have:=hW.inj r' r _ _ h2 hm h3
       subst this
       exact hns h1
      ·intro q hq
       simp only [List.mem_cons,List.not_mem_nil,or_false] at hq
       subst hq;exact hB
      ·rw [← n1]
       refine .whole hrow' (fun i e' j x he' hx=>?_) hb'.symm hs (fun h=>by have:=hoff h;omega)
       obtain ⟨e,he,hsh,hgr⟩:=hel' i e' he'
       obtain ⟨y,hy⟩:=qr0 e.cells j (by rw [← hsh.2.1];exact qd0 hx)
       obtain ⟨u,p,q,_⟩:=hrow.cells _ _ _ _ he hy
       have:=KG0 hsh hgr j x hx
       rw [yN0 p] at this
       exact ⟨u,p,this⟩
     ·cases hr
    ·cases hr
  ·cases hr
 ·rename_i x hx
  exact dat hr
theorem qz2 (v:V) (l:List V) (h:Heap) (seen:List Nat):retL (v::l) h seen=match retV h seen v with
 | none=>none
 | some (v',h1,s1)=>match retL l h1 s1 with
  | none=>none
  | some (l',h2,s2)=>some (v'::l',h2,s2):=rfl
theorem qA2 {B:Ns} {w0:World} {w:World} (l:List V):∀ {g:Gh} {h:Heap} {vs:List Value} {l':List V} {h':Heap} {seen seen' BS:List Nat},W B w0 g h w→vs.length=l.length→(∀ (i:Nat) v x,vs[i]?=some v→l[i]?=some x→R g v x) →
 jg0 g seen BS→retL l h seen=some (l',h',seen')→∃ S bs,RetOk B w0 w g h h' seen seen' BS bs S∧RL S w vs l' bs:=by
 induction l with
 | nil =>
  intro g h vs l' h' seen seen' BS hW hn hR hc hr
  cases hr
  cases vs with
  | nil=>exact ⟨g.S,[],.refl hW hc,.nil⟩
  | cons _ _=>simp at hn
 | cons a l ih =>
  intro g h vs l' h' seen seen' BS hW hn hR hc hr
  rw [qz2] at hr
  cases vs with
  | nil=>simp at hn
  | cons u us =>
   split at hr
   ·cases hr
   ·rename_i a' h1 sn1 ha
    split at hr
    ·cases hr
    ·rename_i l1 h2 sn2 hl
     cases hr
     obtain ⟨S1,b1,r1,q1,_⟩:=jW1 hW (hR 0 u a rfl rfl) hc ha
     obtain ⟨S2,b2,r2,q2⟩:=ih (vs:=us) r1.pub.world (by simpa using hn) (fun i v x p q=>(hR (i+1) v x (by simpa using p) (by simpa using q)).mono r1.pub.grown.ext) r1.cover hl
     exact ⟨S2,b1++b2,r1.trans r2,.cons (q1.more (r1.more r2) fun _ h=>h) q2⟩
theorem jV1 {B:Ns} {w0:World} {g:Gh} {h:Heap} {w:World} {v:Value} {x x':V} {h':Heap} {seen seen' BS:List Nat} (hW:W B w0 g h w) (hR:R g v x) (hc:jg0 g seen BS) (hr:Jc0 h seen x=some (x',h',seen')) :
 ∃ S bs,RetOk B w0 w g h h' seen seen' BS bs S∧RP S w v x' bs∧((∀ l,x≠.tup l)→∀ l,x'≠.tup l):=by
 unfold Jc0 at hr
 split at hr
 ·rename_i vs
  split at hr
  ·rename_i l h1 s1 hl
   cases hr
   obtain ⟨cs,rfl,hn,h1,h⟩:=hR.agg_inv
   obtain ⟨S,bs,p,q⟩:=qA2 vs (vs:=cs.toList) hW (by simpa using hn) (fun i v x a b=>h i v x (by simpa using a) b) hc hl
   exact ⟨S,bs,p,.agg h1 q,fun _ l e=>by cases e⟩
  ·cases hr
 ·rename_i x hx
  obtain ⟨S,bs,p,q,r,t⟩:=jW1 hW hR hc hr
  exact ⟨S,bs,p,.one (r hx) q,t⟩
theorem qB2 (v:V) (l:List V) (h:Heap) (seen:List Nat):XM0 (v::l) h seen=match Jc0 h seen v with
 | none=>none
 | some (v',h1,s1)=>match XM0 l h1 s1 with
  | none=>none
  | some (l',h2,s2)=>some (v'::l',h2,s2):=rfl
theorem qC2 {B:Ns} {w0:World} {w:World} (l:List V):∀ {g:Gh} {h:Heap} {vs:List Value} {l':List V} {h':Heap} {seen seen' BS:List Nat},W B w0 g h w→vs.length=l.length→(∀ (i:Nat) v x,vs[i]?=some v→l[i]?=some x→R g v x) →
 jg0 g seen BS→XM0 l h seen=some (l',h',seen')→∃ S bs,RetOk B w0 w g h h' seen seen' BS bs S∧RPL S w vs l' bs:=by
 induction l with
 | nil =>
  intro g h vs l' h' seen seen' BS hW hn hR hc hr
  cases hr
  cases vs with
  | nil=>exact ⟨g.S,[],.refl hW hc,.nil⟩
  | cons _ _=>simp at hn
 | cons a l ih =>
  intro g h vs l' h' seen seen' BS hW hn hR hc hr
  rw [qB2] at hr
  cases vs with
  | nil=>simp at hn
  | cons u us =>
   split at hr
   ·cases hr
   ·rename_i a' h1 sn1 ha
    split at hr
    ·cases hr
    ·rename_i l1 h2 sn2 hl
     cases hr
     obtain ⟨S1,b1,r1,q1,_⟩:=jV1 hW (hR 0 u a rfl rfl) hc ha
     obtain ⟨S2,b2,r2,q2⟩:=ih (vs:=us) r1.pub.world (by simpa using hn) (fun i v x p q=>(hR (i+1) v x (by simpa using p) (by simpa using q)).mono r1.pub.grown.ext) r1.cover hl
     exact ⟨S2,b1++b2,r1.trans r2,.cons (q1.more (r1.more r2) fun _ h=>h) q2⟩
theorem qy2 {B:Ns} {w0:World} {g:Gh} {h:Heap} {w:World} {v:Value} {x x':V} (hW:W B w0 g h w) (hR:R g v x) (hr:Ye0 h x=some x') :
 ∃ S h' bs,Grown B g (g.say S)∧W B w0 (g.say S) h' w∧RA S w v x' bs∧bs.Nodup∧∀ b,b∈bs→¬ B b∧b<w.heap.size:=by
 have hc:jg0 g [] []:=fun b hb=>by simp at hb
 unfold Ye0 at hr
 split at hr
 ·rename_i vs
  split at hr
  ·rename_i l hs hl
   cases hr
   obtain ⟨cs,rfl,hn,h⟩:=hR.tup_inv
   obtain ⟨h1,s1⟩:=hs
   obtain ⟨S,bs,p,q⟩:=qC2 vs (vs:=cs.toList) hW (by simpa using hn) (fun i v x a b=>h i v x (by simpa using a) b) hc hl
   exact ⟨S,_,bs,p.pub.grown,p.pub.world,.tup q,p.nodup,p.high⟩
  ·cases hr
 ·rename_i x hx
  split at hr
  ·rename_i y hs hl
   cases hr
   obtain ⟨h1,s1⟩:=hs
   obtain ⟨S,bs,p,q,t⟩:=jV1 hW hR hc hl
   exact ⟨S,_,bs,p.pub.grown,p.pub.world,.one (t hx) q,p.nodup,p.high⟩
  ·cases hr
def Free (B:Ns) (g:Gh) (w:World) (bs:List Nat):Prop:=∀ b,b∈bs→¬ B b∧b<w.heap.size∧∀ q x,g.mu q=some x→x.1≠b
structure ThawOk (B:Ns) (w0:World) (g:Gh) (h h':Heap) (w:World) (bs:List Nat) (g':Gh):Prop where
 grown:Grown B g g'
 world:W B w0 g' h' w
 S:g'.S=g.S
 mu:∀ q x,g'.mu q=some x→g.mu q=some x∨x.1∈bs
theorem ThawOk.refl {B:Ns} {w0:World} {g:Gh} {h:Heap} {w:World} (hW:W B w0 g h w):ThawOk B w0 g h h w [] g:=⟨Grown.refl _ _,hW,rfl,fun _ _ h=>.inl h⟩
theorem ThawOk.trans {B:Ns} {w0:World} {g g' g'':Gh} {h h' h'':Heap} {w:World} {b1 b2:List Nat} (p:ThawOk B w0 g h h' w b1 g') (q:ThawOk B w0 g' h' h'' w b2 g''):ThawOk B w0 g h h'' w (b1++b2) g'' :=
 ⟨p.grown.trans q.grown,q.world,q.S.trans p.S,fun r x hr=>by
  rcases q.mu r x hr with h | h
  ·rcases p.mu r x h with h | h
   ·exact .inl h
   ·exact .inr (by simp [h])
  ·exact .inr (by simp [h])⟩
theorem Free.left {B:Ns} {g:Gh} {w:World} {b1 b2:List Nat} (h:Free B g w (b1++b2)):Free B g w b1:=fun b hb=>h b (by simp [hb])
theorem Free.right {B:Ns} {w0:World} {g g':Gh} {h h':Heap} {w:World} {b1 b2:List Nat} (hf:Free B g w (b1++b2)) (hn:(b1++b2).Nodup) (t:ThawOk B w0 g h h' w b1 g'):Free B g' w b2:=fun b hb=>by
 obtain ⟨p,q,r⟩:=hf b (by simp [hb])
 refine ⟨p,q,fun z x hz=>?_⟩
 rcases t.mu z x hz with e | e
 ·exact r z x e
 ·rw [List.nodup_append] at hn
  intro e';subst e'
  exact hn.2.2 _ e _ hb rfl
theorem QI1 {B:Ns} {w0:World} {g:Gh} {h:Heap} {w:World} {v:Value} {x:V} {bs:List Nat} (hW:W B w0 g h w) (hR:RR g.S w v x bs) (hF:Free B g w bs):∃ g',ThawOk B w0 g h (Zh0 h x).2 w bs g'∧R g' v (Zh0 h x).1:=by
 cases hR with
 | data hR =>
  have e:Zh0 h x=(x,h):=by cases hR <;> rfl
  rw [e];exact ⟨g,.refl hW,.gnd hR⟩
 | whole hrow hg hb hs ho =>
  rename_i b k sz ty pub cap es C fr a
  obtain ⟨hB,hlt,hfree⟩:=hF b (by simp)
  change ∃ g',ThawOk B w0 g h (h.new (.row 0 ty sz pub cap es)) w [b] g'∧R g' _ (.sl h.n 0 0 (List.len es) none)
  refine ⟨g.new h.n (b,k,sz) (some 0),⟨⟨Ext.new hW _ _,fun _ _ _ _ e=>e⟩,?_,rfl,fun q x hq=>?_⟩,?_⟩
  ·have hx:Ext (Gh.data g.S) (g.new h.n (b,k,sz) (some 0)):=Ext.data fun _ _ _ e=>e
   refine hW.turn h.n (b,k,sz) ⟨rfl,rfl,rfl,Nat.le_refl _,fun _ _=>rfl⟩ (Ext.new hW _ _) (.inr ⟨Heap.n_new _ _,rfl⟩) (fun q hq=>by simp [Gh.new,hq]) (fun q hq=>by rw [Heap.get_new,if_neg (fun e=>hq e.symm)])
    (fun q hq=>by simp [Gh.new,hq]) (by simp [Gh.new]) (by simp [Gh.new,Heap.get_new,qH0]) (fun q x hq hm=>⟨hfree q x hm,rfl,fun _ _ e=>e⟩) ?_ ⟨hB,hlt⟩ hW.shut
   rw [Heap.get_new,if_pos rfl]
   exact ⟨rfl,C,fr,hrow.at_,hrow.csize,hrow.pos,hrow.fits,hrow.pubs,hrow.caps,hrow.elems,fun i e j y he hy=>(match hrow.cells i e j y he hy with | ⟨v,p,q,s⟩=>⟨v,p,q,s.mono hx⟩),hrow.shut,hrow.ice⟩
  ·by_cases e:q=h.n
   ·simp only [Gh.new,e,if_true,Option.some.injEq] at hq
    subst hq;exact .inr (by simp)
   ·simp only [Gh.new,if_neg e] at hq
    exact .inl hq
  ·rw [List.len_eq]
   refine .sl (ver':=0) (by simp [Gh.new]) (Nat.le_refl _) hrow.fits (fun _ e=>by cases e) fun _=>⟨k,sz,by simp [Gh.new,hb],fun hk=>by rw [ho hk];simp,hs,by omega,fun _=>by omega⟩
theorem zV2 (v:V) (l:List V) (h:Heap):Zi0 (v::l) h=match Zh0 h v with
 | (v',h1)=>match Zi0 l h1 with
  | (l',h2)=>(v'::l',h2):=rfl
theorem zW2 {B:Ns} {w0:World} {w:World} {S:Nat→Nat→Option Value} {vs:List Value} {l:List V} {bs:List Nat} (hR:RL S w vs l bs):∀ {g:Gh} {h:Heap},W B w0 g h w→g.S=S→Free B g w bs→bs.Nodup →
 ∃ g',ThawOk B w0 g h (Zi0 l h).2 w bs g'∧Rs' g' vs.toArray (Zi0 l h).1:=by
 induction hR with
 | nil=>intro g h hW _ _ _;exact ⟨g,.refl hW,rfl,fun i v x e=>by simp at e⟩
 | cons h1 t ih =>
  rename_i v vs x xs b bs
  intro g h hW hS hF hn
  subst hS
  obtain ⟨g1,t1,r1⟩:=QI1 hW h1 hF.left
  obtain ⟨g2,t2,r2⟩:=ih t1.world t1.S (hF.right hn t1) (by rw [List.nodup_append] at hn;exact hn.2.1)
  rw [zV2]
  refine ⟨g2,t1.trans t2,by simpa using r2.1,fun i v x p q=>?_⟩
  cases i with
  | zero=>simp at p q;subst p;subst q;exact r1.mono t2.grown.ext
  | succ i=>exact r2.2 i v x (by simpa using p) (by simpa using q)
theorem QJ1 {B:Ns} {w0:World} {g:Gh} {h:Heap} {w:World} {v:Value} {x:V} {bs:List Nat} (hW:W B w0 g h w) (hR:RP g.S w v x bs) (hF:Free B g w bs) (hn:bs.Nodup):∃ g',ThawOk B w0 g h (Qs0 h x).2 w bs g'∧R g' v (Qs0 h x).1:=by
 cases hR with
 | one hx hR =>
  have e:Qs0 h x=Zh0 h x:=by cases x <;> first | rfl | exact absurd rfl (hx _)
  rw [e];exact QI1 hW hR hF
 | agg h1 hR =>
  rename_i cs xs
  obtain ⟨g',t,r⟩:=zW2 hR hW rfl hF hn
  have e:Qs0 h (.agg xs)=(.agg (Zi0 xs h).1,(Zi0 xs h).2):=rfl
  rw [e]
  exact ⟨g',t,.agg (by have:=r.1;simpa using this) h1 fun i v x p q=>r.2 i v x (by simpa using p) q⟩
theorem zX2 (v:V) (l:List V) (h:Heap):Zj0 (v::l) h=match Qs0 h v with
 | (v',h1)=>match Zj0 l h1 with
  | (l',h2)=>(v'::l',h2):=rfl
theorem zY2 {B:Ns} {w0:World} {w:World} {S:Nat→Nat→Option Value} {vs:List Value} {l:List V} {bs:List Nat} (hR:RPL S w vs l bs):∀ {g:Gh} {h:Heap},W B w0 g h w→g.S=S→Free B g w bs→bs.Nodup →
 ∃ g',ThawOk B w0 g h (Zj0 l h).2 w bs g'∧Rs' g' vs.toArray (Zj0 l h).1:=by
 induction hR with
 | nil=>intro g h hW _ _ _;exact ⟨g,.refl hW,rfl,fun i v x e=>by simp at e⟩
 | cons h1 t ih =>
  rename_i v vs x xs b bs
  intro g h hW hS hF hn
  subst hS
  obtain ⟨g1,t1,r1⟩:=QJ1 hW h1 hF.left (by rw [List.nodup_append] at hn;exact hn.1)
  obtain ⟨g2,t2,r2⟩:=ih t1.world t1.S (hF.right hn t1) (by rw [List.nodup_append] at hn;exact hn.2.1)
  rw [zX2]
  refine ⟨g2,t1.trans t2,by simpa using r2.1,fun i v x p q=>?_⟩
  cases i with
  | zero=>simp at p q;subst p;subst q;exact r1.mono t2.grown.ext
  | succ i=>exact r2.2 i v x (by simpa using p) (by simpa using q)
theorem zZ2 {B:Ns} {w0:World} {g:Gh} {h:Heap} {w:World} {v:Value} {x:V} {bs:List Nat} (hW:W B w0 g h w) (hR:RA g.S w v x bs) (hF:Free B g w bs) (hn:bs.Nodup):∃ g',ThawOk B w0 g h (thaw h x).2 w bs g'∧R g' v (thaw h x).1:=by
 cases hR with
 | one hx hR =>
  have e:thaw h x=Qs0 h x:=by cases x <;> first | rfl | exact absurd rfl (hx _)
  rw [e];exact QJ1 hW hR hF hn
 | tup hR =>
  rename_i cs xs
  obtain ⟨g',t,r⟩:=zY2 hR hW rfl hF hn
  have e:thaw h (.tup xs)=(.tup (Zj0 xs h).1,(Zj0 xs h).2):=rfl
  rw [e]
  exact ⟨g',t,.tup (by have:=r.1;simpa using this) fun i v x p q=>r.2 i v x (by simpa using p) q⟩
theorem W.join {B:Ns} {w0:World} {g:Gh} {h:Heap} {w w':World} (hW:W B w0 g h w) (hl:Below w.heap.size w w') {S:Nat→Nat→Option Value} (hm:∀ b o v,g.S b o=some v→S b o=some v) (hk:∀ b o v,b<w.heap.size→S b o=some v→g.S b o=some v) (hs:jD0 S w') :
 Grown B g (g.say S)∧W B w0 (g.say S) h w':=by
 refine ⟨⟨Ext.say hm,fun b o v hb' e=>hk b o v (hW.base b hb') e⟩,?_⟩
 have hl':Under B w w':=⟨hl.os,hl.tape,hl.output,hl.size,fun k hk=>hl.block k (hW.base k hk)⟩
 exact ⟨hW.low.trans hl',fun b hb=>Nat.lt_of_lt_of_le (hW.base b hb) hl.size,hs,hW.dom,hW.out,hW.ver,fun r x hr=>(hW.obj r x hr).mono (Ext.say hm) (hl.block _ (hW.high r x hr).2) (fun o v e=>hk _ o v (hW.high r x hr).2 e),hW.inj,fun r x hr=>⟨(hW.high r x hr).1,Nat.lt_of_lt_of_le (hW.high r x hr).2 hl.size⟩⟩
theorem W.start {S:Nat→Nat→Option Value} {w:World} (hs:jD0 S w):W (lo w.heap.size) w (Gh.data S) Heap.empty w where
 low:=⟨rfl,rfl,rfl,Nat.le_refl _,fun _ _=>rfl⟩
 base:=fun _ h=>h
 shut:=hs
 dom:=fun r hr=>absurd hr (Nat.not_lt_zero _)
 out:=fun r _=>⟨rfl,rfl⟩
 ver:=fun r=>rfl
 obj:=fun r x e=>by cases e
 inj:=fun r r' x x' e=>by cases e
 high:=fun r x e=>by cases e
variable {B:Ns} {w0:World}
theorem W.sayFree {g:Gh} {h:Heap} {w:World} (hW:W B w0 g h w) {S:Nat→Nat→Option Value} (hm:∀ b o v,g.S b o=some v→S b o=some v) (hk:∀ q x,g.mu q=some x→∀ o v,S x.1 o=some v→g.S x.1 o=some v) (hs:jD0 S w):W B w0 (g.say S) h w :=
 ⟨hW.low,hW.base,hs,hW.dom,hW.out,hW.ver,fun r x hr=>(hW.obj r x hr).mono (Ext.say hm) rfl (hk r x hr),hW.inj,hW.high⟩
structure StillOk (B:Ns) (w0:World) (g:Gh) (h:Heap) (w:World) (bs:List Nat) (S:Nat→Nat→Option Value):Prop where
 grown:Grown B g (g.say S)
 world:W B w0 (g.say S) h w
 keep:∀ b,¬ b∈bs→∀ o v,S b o=some v→g.S b o=some v
theorem StillOk.refl {g:Gh} {h:Heap} {w:World} (hW:W B w0 g h w):StillOk B w0 g h w [] g.S:=⟨Grown.refl _ _,hW,fun _ _ _ _ e=>e⟩
theorem StillOk.trans {g:Gh} {h:Heap} {w:World} {b1 b2:List Nat} {S S':Nat→Nat→Option Value} (p:StillOk B w0 g h w b1 S) (q:StillOk B w0 (g.say S) h w b2 S'):StillOk B w0 g h w (b1++b2) S' :=
 ⟨p.grown.trans q.grown,q.world,fun b hb o v e=>p.keep b (fun h=>hb (by simp [h])) o v (q.keep b (fun h=>hb (by simp [h])) o v e)⟩
theorem StillOk.more {g:Gh} {h:Heap} {w:World} {b1 b2:List Nat} {S:Nat→Nat→Option Value} (p:StillOk B w0 g h w b1 S) (hn:(b1++b2).Nodup):More b2 g.S S :=
 ⟨p.grown.ext.S,fun b hb o v e=>p.keep b (fun h=>by rw [List.nodup_append] at hn;exact hn.2.2 b h b hb rfl) o v e⟩
theorem QB1 {g:Gh} {h:Heap} {w:World} {v:Value} {x:V} {bs:List Nat} (hW:W B w0 g h w) (hR:RR g.S w v x bs) (hF:Free B g w bs):∃ S,StillOk B w0 g h w bs S∧GR S v (Ze0 x):=by
 cases hR with
 | data hR =>
  have e:Ze0 x=x:=by cases hR <;> rfl
  rw [e];exact ⟨g.S,.refl hW,hR⟩
 | whole hrow hg hb hs ho =>
  rename_i b k sz ty pub cap es C fr a
  obtain ⟨hB,hlt,hfree⟩:=hF b (by simp)
  have hm:∀ b' o v,g.S b' o=some v→said g.S b 0 (es.length*sz) C b' o=some v:=fun b' o v hv=>by
   unfold said
   split
   ·rename_i hc
    obtain ⟨rfl,_⟩:=hc
    obtain ⟨h1,h2⟩:=YP0 hrow.at_ (hW.shut _ _ _ hv)
    exact Zp0 h1 h2
   ·exact hv
  have hk:∀ b',b'≠b→∀ o v,said g.S b 0 (es.length*sz) C b' o=some v→g.S b' o=some v:=fun b' hb' o v hv=>by
   unfold said at hv
   rw [if_neg (fun q=>hb' q.1)] at hv;exact hv
  have hW':=hW.sayFree (S:=said g.S b 0 (es.length*sz) C) hm (fun q x hq=>hk x.1 (hfree q x hq)) (fun b' o v hv=>by
   unfold said at hv
   split at hv
   ·rename_i hc
    obtain ⟨rfl,_⟩:=hc
    exact ZO0 hrow.at_ (jM0 hv).1 (jM0 hv).2
   ·exact hW.shut b' o v hv)
  refine ⟨_,⟨⟨Ext.say hm,fun b' o v hb' e=>hk b' (fun q=>hB (q ▸ hb')) o v e⟩,hW',fun b' hb'=>hk b' (by simpa using hb')⟩,?_⟩
  change GR _ _ (.gsl sz es cap)
  rw [Addr.eta hs,hb]
  refine .gsl (fun i j=>C.getD (i*sz+j) Go.undef) hrow.pos hrow.elems (fun i e j x p q=>?_) (fun c' e=>(hrow.caps c' e)) hrow.fits (fun i e j x p q=>?_)
  ·obtain ⟨u,p1,p2,_⟩:=hrow.cells i e j x p q
   rw [yN0 p1]
   refine ⟨?_,p2⟩
   have hi:=qd0 p
   have hj:j<sz:=by rw [← (hrow.elems i e p).1];exact qd0 q
   have hl:=yP0 hi hj
   have hoff:a.off=0:=ho (by have:=hrow.fits;omega)
   unfold said
   rw [hoff,Nat.zero_add,if_pos ⟨rfl,Nat.zero_le _,hl⟩];exact Zp0 p1 p2
  ·obtain ⟨u,p1,r⟩:=hg i e j x p q
   rw [yN0 p1]
   exact r.mono hm
theorem ji1 (f:V→V) (x:V) (l:List V):Qd0 f (x::l)=f x::Qd0 f l:=rfl
theorem Free.say {g:Gh} {w:World} {bs:List Nat} (h:Free B g w bs) (S:Nat→Nat→Option Value):Free B (g.say S) w bs:=h
theorem Free.rest {g:Gh} {w:World} {b1 b2:List Nat} (h:Free B g w (b1++b2)):Free B g w b2:=fun b hb=>h b (by simp [hb])
theorem zG2 {w:World} {h:Heap} (l:List V):∀ {g:Gh} {vs:List Value} {bs:List Nat},RL g.S w vs l bs→W B w0 g h w→Free B g w bs→bs.Nodup →
 ∃ S',StillOk B w0 g h w bs S'∧vs.length=(Qd0 Ze0 l).length∧∀ (i:Nat) v x,vs[i]?=some v→(Qd0 Ze0 l)[i]?=some x→GR S' v x:=by
 induction l with
 | nil=>intro g vs bs hR hW _ _;cases hR;exact ⟨g.S,.refl hW,rfl,fun i v x e=>by simp at e⟩
 | cons x l ih =>
  intro g vs bs hR hW hF hn
  cases hR with
  | cons h1 t =>
   rename_i v vs b bs
   obtain ⟨S1,t1,r1⟩:=QB1 hW h1 hF.left
   obtain ⟨S2,t2,n2,r2⟩:=ih (g:=g.say S1) (t.more (t1.more hn) (fun _ q=>q)) t1.world (hF.rest.say S1) (by rw [List.nodup_append] at hn;exact hn.2.1)
   rw [ji1]
   refine ⟨S2,t1.trans t2,by simp [n2],fun i u y p q=>?_⟩
   cases i with
   | zero=>simp at p q;subst p;subst q;exact r1.mono t2.grown.ext.S
   | succ i=>exact r2 i u y (by simpa using p) (by simpa using q)
theorem QC1 {g:Gh} {h:Heap} {w:World} {v:Value} {x:V} {bs:List Nat} (hW:W B w0 g h w) (hR:RP g.S w v x bs) (hF:Free B g w bs) (hn:bs.Nodup):∃ S,StillOk B w0 g h w bs S∧GR S v (Zf0 x):=by
 cases hR with
 | one hx hR =>
  have e:Zf0 x=Ze0 x:=by cases x <;> first | rfl | exact absurd rfl (hx _)
  rw [e];exact QB1 hW hR hF
 | agg h1 hR =>
  obtain ⟨S,t,n',r⟩:=zG2 _ hR hW hF hn
  exact ⟨S,t,.agg (by simpa using n') h1 fun i v x p q=>r i v x (by simpa using p) q⟩
theorem zH2 {w:World} {h:Heap} (l:List V):∀ {g:Gh} {vs:List Value} {bs:List Nat},RPL g.S w vs l bs→W B w0 g h w→Free B g w bs→bs.Nodup →
 ∃ S',StillOk B w0 g h w bs S'∧vs.length=(Qd0 Zf0 l).length∧∀ (i:Nat) v x,vs[i]?=some v→(Qd0 Zf0 l)[i]?=some x→GR S' v x:=by
 induction l with
 | nil=>intro g vs bs hR hW _ _;cases hR;exact ⟨g.S,.refl hW,rfl,fun i v x e=>by simp at e⟩
 | cons x l ih =>
  intro g vs bs hR hW hF hn
  cases hR with
  | cons h1 t =>
   rename_i v vs b bs
   obtain ⟨S1,t1,r1⟩:=QC1 hW h1 hF.left (by rw [List.nodup_append] at hn;exact hn.1)
   obtain ⟨S2,t2,n2,r2⟩:=ih (g:=g.say S1) (t.more (t1.more hn) (fun _ q=>q)) t1.world (hF.rest.say S1) (by rw [List.nodup_append] at hn;exact hn.2.1)
   rw [ji1]
   refine ⟨S2,t1.trans t2,by simp [n2],fun i u y p q=>?_⟩
   cases i with
   | zero=>simp at p q;subst p;subst q;exact r1.mono t2.grown.ext.S
   | succ i=>exact r2 i u y (by simpa using p) (by simpa using q)
theorem zI2 {g:Gh} {h:Heap} {w:World} {v:Value} {x:V} {bs:List Nat} (hW:W B w0 g h w) (hR:RA g.S w v x bs) (hF:Free B g w bs) (hn:bs.Nodup):∃ S,StillOk B w0 g h w bs S∧GR S v (still x):=by
 cases hR with
 | one hx hR =>
  have e:still x=Zf0 x:=by cases x <;> first | rfl | exact absurd rfl (hx _)
  rw [e];exact QC1 hW hR hF hn
 | tup hR =>
  obtain ⟨S,t,n',r⟩:=zH2 _ hR hW hF hn
  exact ⟨S,t,.tup (by simpa using n') fun i v x p q=>r i v x (by simpa using p) q⟩
theorem yK0 {α:Type} (f:α→Bool) (l:List α):qV0 f l=true↔∀ x,x∈l→f x=true:=by
 induction l with
 | nil=>simp [qV0]
 | cons x l ih =>
  change (bif f x then qV0 f l else false)=true↔_
  cases h:f x <;> simp [ih,h]
theorem GN1 {S:Nat→Nat→Option Value} {w:World} {v:Value} {x:V} {bs:List Nat} (hR:RR S w v x bs) (hp:QX0 x=true) (g:Gh):R g v x:=by
 cases hR with
 | data hR =>
  cases x <;> first | (cases hp;done) | (cases hR;first | exact .gnd (.int _ _) | exact .gnd (.bool _) | exact .gnd (.str ‹_›))
 | whole _ _ _ _ _=>cases hp
theorem jK1 {S:Nat→Nat→Option Value} {w:World} {v:Value} {x:V} {bs:List Nat} (hR:RP S w v x bs) (hp:QX0 x=true) (g:Gh):R g v x:=by
 cases hR with
 | one _ hR=>exact GN1 hR hp g
 | agg _ _=>cases hp
theorem GL1 {S:Nat→Nat→Option Value} {w:World} {vs:List Value} {xs:List V} {bs:List Nat} (hR:RPL S w vs xs bs) (hp:∀ x,x∈xs→QX0 x=true) (g:Gh):vs.length=xs.length∧∀ (i:Nat) v x,vs[i]?=some v→xs[i]?=some x→R g v x:=by
 induction hR with
 | nil=>exact ⟨rfl,fun i v x p=>by simp at p⟩
 | cons h t ih =>
  obtain ⟨e,r⟩:=ih fun x hx=>hp x (by simp [hx])
  refine ⟨by simp [e],fun i v x p q=>?_⟩
  cases i with
  | zero=>simp at p q;subst p;subst q;exact jK1 h (hp _ (by simp)) g
  | succ i=>exact r i v x (by simpa using p) (by simpa using q)
theorem GM1 {S:Nat→Nat→Option Value} {w:World} {v:Value} {x:V} {bs:List Nat} (hR:RA S w v x bs) (hp:YZ0 x=true) (g:Gh):R g v x:=by
 cases hR with
 | one hx hR =>
  have e:YZ0 x=QX0 x:=by cases x <;> first | rfl | exact absurd rfl (hx _)
  rw [e] at hp;exact jK1 hR hp g
 | tup hR =>
  rename_i cs xs
  obtain ⟨e,r⟩:=GL1 hR (fun x hx=>(yK0 _ _).1 (show qV0 QX0 xs=true from hp) x hx) g
  exact .tup (by simpa using e) fun i v x p q=>r i v x (by simpa using p) q
def MarksOk (g:Gh) (ds:List Deferred) (ms:List Nat):Prop:=ds.length=ms.length∧∀ (i:Nat) d m,ds[i]?=some d→ms[i]?=some m→∃ b k,d={ target:=.collected b,args:=#[] }∧g.vr m=none∧g.mu m=some (b,k)
theorem MarksOk.mono {g g':Gh} {ds:List Deferred} {ms:List Nat} (h:MarksOk g ds ms) (hx:Ext g g'):MarksOk g' ds ms :=
 ⟨h.1,fun i d m a b=>(match h.2 i d m a b with | ⟨q,k,e,hv,hm⟩=>⟨q,k,e,hx.obj _ _ hv hm⟩)⟩
def RoundOk (g:Gh) (ro:Option Nat) (r:Option Nat):Prop :=
 match r with
 | none=>ro=none
 | some l=>∃ b k,ro=some b∧g.vr l=none∧g.mu l=some (b,k)
theorem RoundOk.mono {g g':Gh} {ro r:Option Nat} (h:RoundOk g ro r) (hx:Ext g g'):RoundOk g' ro r:=by
 cases r with
 | none=>exact h
 | some l=>obtain ⟨b,k,e,hv,hm⟩:=h;exact ⟨b,k,e,hx.obj _ _ hv hm⟩
def DCalls (g:Gh) (ds:List Deferred) (fs:List (FuncId×List V)):Prop:=ds.length=fs.length∧∀ (i:Nat) d f,ds[i]?=some d→fs[i]?=some f→∃ us cap,d={ target:=.fn (.func f.1) cap,args:=us }∧Rs' g (us++cap) f.2
theorem DCalls.mono {g g':Gh} {ds:List Deferred} {fs:List (FuncId×List V)} (h:DCalls g ds fs) (hx:Ext g g'):DCalls g' ds fs :=
 ⟨h.1,fun i d f a b=>(match h.2 i d f a b with | ⟨us,cap,e,r⟩=>⟨us,cap,e,r.mono hx⟩)⟩
def DefsOk (g:Gh) (ds:List Deferred) (ms:List Nat) (fs:List (FuncId×List V)):Prop:=(fs=[]∧MarksOk g ds ms)∨(ms=[]∧DCalls g ds fs)
theorem DefsOk.mono {g g':Gh} {ds:List Deferred} {ms:List Nat} {fs:List (FuncId×List V)} (h:DefsOk g ds ms fs) (hx:Ext g g'):DefsOk g' ds ms fs :=
 h.imp (fun q=>⟨q.1,q.2.mono hx⟩) (fun q=>⟨q.1,q.2.mono hx⟩)
theorem DefsOk.nil (g:Gh):DefsOk g [] [] []:=.inl ⟨rfl,rfl,fun i d m q=>by simp at q⟩
theorem DefsOk.marks {g:Gh} {ds:List Deferred} {ms:List Nat} (h:DefsOk g ds ms []):MarksOk g ds ms:=by
 rcases h with ⟨_,h⟩ | ⟨rfl,h⟩
 ·exact h
 ·have:ds=[]:=by have:=h.1;simpa using this
  subst this
  exact ⟨rfl,fun i d m q=>by simp at q⟩
theorem DefsOk.calls {g:Gh} {ds:List Deferred} {fs:List (FuncId×List V)} (h:DefsOk g ds [] fs):DCalls g ds fs:=by
 rcases h with ⟨rfl,h⟩ | ⟨_,h⟩
 ·have:ds=[]:=by have:=h.1;simpa using this
  subst this
  exact ⟨rfl,fun i d m q=>by simp at q⟩
 ·exact h
structure FrOk (g:Gh) (b:Frame) (fr:Fr) (a:Act):Prop where
 fn:b.fn=fr.fn
 slots:Slots g fr.n fr.tm a.tmps
 round:RoundOk g b.roundOf fr.round
 marks:DefsOk g a.defers fr.marks fr.defers
theorem FrOk.mono {g g':Gh} {b:Frame} {fr:Fr} {a:Act} (h:FrOk g b fr a) (hx:Ext g g'):FrOk g' b fr a:=⟨h.fn,h.slots.mono hx,h.round.mono hx,h.marks.mono hx⟩
structure SlotsP (g:Gh) (n:Nat) (tm:T V) (tmps:Array Value):Prop where
 size:tmps.size=n
 rel:∀ (i:Nat) v,tmps[i]?=some v→tm.get undef i=qz0∨R g v (tm.get undef i)
 none:∀ i,n≤i→tm.get undef i=undef∨tm.get undef i=qz0
theorem Slots.weak {g:Gh} {n:Nat} {tm:T V} {tmps:Array Value} (h:Slots g n tm tmps):SlotsP g n tm tmps:=⟨h.size,h.rel,h.none⟩
theorem SlotsP.mono {g g':Gh} {n:Nat} {tm:T V} {tmps:Array Value} (h:SlotsP g n tm tmps) (hx:Ext g g'):SlotsP g' n tm tmps:=⟨h.size,fun i v e=>(h.rel i v e).imp id fun q=>q.mono hx,h.none⟩
structure FrOkP (g:Gh) (b:Frame) (fr:Fr) (a:Act):Prop where
 fn:b.fn=fr.fn
 slots:SlotsP g fr.n fr.tm a.tmps
 round:RoundOk g b.roundOf fr.round
 marks:DefsOk g a.defers fr.marks fr.defers
theorem FrOk.weak {g:Gh} {b:Frame} {fr:Fr} {a:Act} (h:FrOk g b fr a):FrOkP g b fr a:=⟨h.fn,h.slots.weak,h.round,h.marks⟩
def FrE (g:Gh) (b:Frame) (fr:Fr) (a:Act):Ex→Prop
 | .panic _=>FrOkP g b fr a
 | _=>FrOk g b fr a
def Qk0 (v:Value):List PanicEntry:=[{ v,recovered:=false }]
def Arr (P:Program) (m:Machine) (b:Frame) (k:List Item) (cs:List Frame) (g:Gh) (a:Act) (w:World):Ex→Prop
 | .normal=>Steps P m (lone (b.atR a k) cs w)
 | .exit id=>∃ todo,exitTo id todo=exitTo id k∧Steps P m (lone (b.atR a (.code (.exit id)::todo)) cs w)
 | .goto _=>False
 | .ret=>∃ todo,Steps P m (lone (b.atR a (.code .ret::todo)) cs w)
 | .panic y=>∃ v todo,R g v y∧Steps P m (lone { b.atR a todo with mode:=.panicking (Qk0 v) } cs w)
theorem Arr.of_steps {P:Program} {m m':Machine} {b:Frame} {k:List Item} {cs:List Frame} {g:Gh} {a:Act} {w:World} {e:Ex} (h:Steps P m m') (h':Arr P m' b k cs g a w e):Arr P m b k cs g a w e:=by
 cases e with
 | normal=>exact h.trans h'
 | exit id=>obtain ⟨t,p,q⟩:=h';exact ⟨t,p,h.trans q⟩
 | goto l=>exact h'
 | ret=>obtain ⟨t,q⟩:=h';exact ⟨t,h.trans q⟩
 | panic y=>obtain ⟨v,t,p,q⟩:=h';exact ⟨v,t,p,h.trans q⟩
def CodeOk (P:Program) (B:Ns) (w0:World) (g:Gh) (m:Machine) (b:Frame) (k:List Item) (cs:List Frame):Res→Prop
 | .code e fr h=>∃ g' a w,Grown B g g'∧W B w0 g' h w∧FrE g' b fr a e∧Arr P m b k cs g' a w e
 | .none _ _=>True
 | _=>False
theorem CodeOk.of_steps {P:Program} {B:Ns} {w0:World} {g g':Gh} {m m':Machine} {b:Frame} {k:List Item} {cs:List Frame} {r:Res} (hs:Steps P m m') (hg:Grown B g g') (h:CodeOk P B w0 g' m' b k cs r):CodeOk P B w0 g m b k cs r:=by
 cases r with
 | code e fr h'=>obtain ⟨g2,a,w,p,q,r,s⟩:=h;exact ⟨g2,a,w,hg.trans p,q,r,.of_steps hs s⟩
 | none _ _=>trivial
 | ret _ _=>exact h
 | panic _ _=>exact h
 | dret _ _=>exact h
def qD1 (P:Program) (cs:List Frame) (f:FuncId) (us:Array Value) (w:World) (v:Value) (w':World):Prop :=
 (callFunc f us).run P w=.ok (.value v) w' ∨
  ((callFunc f us).run P w=.ok (.enter f us) w∧∃ fr,Steps P (lone (Frame.enter P f us .normal) cs w) (lone fr cs w')∧fr.fn=f∧fr.leaving P w' (.returned v))
def qC1 (P:Program) (cs:List Frame) (f:FuncId) (us:Array Value) (w:World) (v:Value) (w':World):Prop :=
 (callFunc f us).run P w=.ok (.enter f us) w∧∃ fr,Steps P (lone (Frame.enter P f us .normal) cs w) (lone fr cs w')∧fr.fn=f∧fr.leaving P w' (.panicked (Qk0 v))
def CallOk (P:Program) (B:Ns) (w0:World) (g:Gh) (cs:List Frame) (f:FuncId) (us:Array Value) (w:World):Res→Prop
 | .ret y h=>∃ g' w' v,Grown B g g'∧W B w0 g' h w'∧R g' v y∧qD1 P cs f us w v w'
 | .panic y h=>∃ g' w' v,Grown B g g'∧W B w0 g' h w'∧R g' v y∧qC1 P cs f us w v w'
 | .none _ _=>True
 | _=>False
def QT1 (P:Program) (c:Frame) (cs:List Frame) (l:Nat) (us:Array Value) (w:World) (v:Value) (w':World):Prop :=
 ∃ fn tmps as bd,(Instr.yield l us).run P w=.ok (.round l fn tmps as bd) w∧Steps P (lone (Frame.round l fn tmps as bd .normal) (c::cs) w) (lone (c.finish v) cs w')
def QS1 (P:Program) (c:Frame) (cs:List Frame) (l:Nat) (us:Array Value) (w:World) (v:Value) (w':World):Prop :=
 ∃ fn tmps as bd,(Instr.yield l us).run P w=.ok (.round l fn tmps as bd) w∧Steps P (lone (Frame.round l fn tmps as bd .normal) (c::cs) w) (lone (c.raise (Qk0 v)) cs w')
def Ju0 (P:Program) (B:Ns) (w0:World) (g:Gh) (c:Frame) (cs:List Frame) (l:Nat) (us:Array Value) (w:World):Res→Prop
 | .ret y h=>∃ g' w' v,Grown B g g'∧W B w0 g' h w'∧R g' v y∧QT1 P c cs l us w v w'
 | .panic y h=>∃ g' w' v,Grown B g g'∧W B w0 g' h w'∧R g' v y∧QS1 P c cs l us w v w'
 | .none _ _=>True
 | _=>False
def PureOk (P:Program) (G:Nat→Option V) (f:FuncId) (gs:List V) (v:V):Prop:=∀ (S:Nat→Nat→Option Value) (w:World) (cs:List Frame) (us:Array Value),jD0 S w→GlobOk G S→Rs' (Gh.data S) us gs →
 ∃ S' w' y bs,(∀ b o v,S b o=some v→S' b o=some v)∧(∀ b o v,b<w.heap.size→S' b o=some v→S b o=some v)∧jD0 S' w'∧Below w.heap.size w w'∧RA S' w' y v bs∧bs.Nodup∧(∀ b,b∈bs→w.heap.size≤b∧b<w'.heap.size)∧qD1 P cs f us w y w'
def PurePan (P:Program) (G:Nat→Option V) (f:FuncId) (gs:List V) (v:V):Prop:=∀ (S:Nat→Nat→Option Value) (w:World) (cs:List Frame) (us:Array Value),jD0 S w→GlobOk G S→Rs' (Gh.data S) us gs →
 ∃ S' w' y,(∀ b o v,S b o=some v→S' b o=some v)∧(∀ b o v,b<w.heap.size→S' b o=some v→S b o=some v)∧jD0 S' w'∧Below w.heap.size w w'∧GR S' y v∧qC1 P cs f us w y w'
def yr0 (P:Program) (E:Env):Prop:=∀ f gs v,E.prim f gs=some v→PureOk P E.glob f gs v
def Yl0 (g:Gh) (m:FrameMode):Option V→Prop
 | none=>m=.returning
 | some y=>∃ v,m=.panicking (Qk0 v)∧R g v y
def Ki0 (P:Program) (B:Ns) (w0:World) (g:Gh) (c:Frame) (cs:List Frame) (f:FuncId) (us:Array Value) (w:World):Res→Prop
 | .dret _ h=>∃ g' w',Grown B g g'∧W B w0 g' h w'∧(callFunc f us).run P w=.ok (.enter f us) w∧Steps P (lone (Frame.enter P f us .deferred) (c::cs) w) (lone { c with mode:=.returning } cs w')
 | .none _ _=>True
 | _=>False
structure Snd (P:Program) (E:Env) (ih:Task→Res):Prop where
 prim:yr0 P E
 code:∀ {B w0 g h w} (c:Code) (fr:Fr) (a:Act) (b:Frame) (k:List Item) (cs:List Frame),W B w0 g h w→GlobOk E.glob g.S→FrOk g b fr a→CodeOk P B w0 g (lone (b.atR a (.code c::k)) cs w) b k cs (ih (.code c fr h))
 loop:∀ {B w0 g h w} (c:Code) (fr:Fr) (a:Act) (b:Frame) (k:List Item) (cs:List Frame),W B w0 g h w→GlobOk E.glob g.S→FrOk g b fr a→CodeOk P B w0 g (lone (b.atR a (.inLoop c::k)) cs w) b k cs (ih (.code (.loop c) fr h))
 dcall:∀ {B w0 g h w} (c:Frame) (cs:List Frame) (f:FuncId) (args:List V) (us:Array Value) (p:Option V),W B w0 g h w→GlobOk E.glob g.S→Rs' g us args→Yl0 g c.mode p→Ki0 P B w0 g c cs f us w (ih (.dcall f args p h))
 call:∀ {B w0 g h w} (cs:List Frame) (f:FuncId) (args:List V) (us:Array Value),W B w0 g h w→GlobOk E.glob g.S→Rs' g us args→CallOk P B w0 g cs f us w (ih (.call f args h))
 yield:∀ {B w0 g h w} (c:Frame) (cs:List Frame) (l b:Nat) (k:Nat×Nat) (args:List V) (us:Array Value),W B w0 g h w→GlobOk E.glob g.S→g.vr l=none→g.mu l=some (b,k)→Rs' g us args→Ju0 P B w0 g c cs b us w (ih (.yield l args h))
theorem Slots.set {g:Gh} {n:Nat} {tm:T V} {tmps:Array Value} (h:Slots g n tm tmps) {d:Tmp} (hd:d<n) {v:Value} {y:V} (hR:R g v y):Slots g n (tm.set undef y d) (tmps.setIfInBounds d v) where
 size:=by simp [h.size]
 rel:=fun i u hu=>by
  rw [T.get_set]
  rw [Array.getElem?_setIfInBounds] at hu
  split at hu
  ·rename_i e;subst e
   split at hu
   ·cases hu;simp only [if_true];exact .inr hR
   ·cases hu
  ·rename_i e
   rw [if_neg (by first | exact e | exact fun q=>e q.symm)]
   exact h.rel i u hu
 none:=fun i hi=>by
  have h1:¬ d=i:=fun e=>by subst e;exact Nat.lt_irrefl _ (Nat.lt_of_lt_of_le hd hi)
  have h2:¬ i=d:=fun e=>h1 e.symm
  rw [T.get_set]
  simp only [h1,if_false]
  exact h.none i hi
theorem FrOk.put {g:Gh} {b:Frame} {fr fr':Fr} {a:Act} (h:FrOk g b fr a) {d:Option Tmp} {v:Value} {y:V} (hR:R g v y) (hp:fr.put d y=some fr'):FrOk g b fr' (a.put d v):=by
 cases d with
 | none=>cases hp;exact h
 | some d =>
  obtain ⟨fn,n,tm,marks,defers,round,dk,did⟩:=fr
  change (Bool.rec Option.none (some (⟨fn,n,tm.set undef y d,marks,defers,round,dk,did⟩:Fr)) (Nat.blt d n):Option Fr)=some fr' at hp
  cases hb:Nat.blt d n with
  | false=>rw [hb] at hp;cases hp
  | true =>
   rw [hb] at hp;cases hp
   rw [Nat.blt_eq] at hb
   exact ⟨h.fn,h.slots.set hb hR,h.round,h.marks⟩
theorem R.notBool {g:Gh} {v:Value} {x:V} (h:R g v x) (h1:∀ b,x≠.bool b) (h2:x≠.any):∀ b,v≠.bool b:=by
 intro b e
 subst e
 cases h with
 | gnd h=>cases h with
  | bool b=>exact h1 _ rfl
  | oslS h=>cases h
 | any _=>exact h2 rfl
theorem Jt0 {g:Gh} {b:Frame} {fr:Fr} {a:Act} (hf:FrOk g b fr a) {ops:Array Oper} {o:Oper} {t:Bool} (h:wanted ops.toList fr o=some t):Region.wanted o (yielded ops a.tmps)=t:=by
 unfold wanted at h
 unfold Region.wanted
 cases hg:o.guard with
 | none=>rw [hg] at h;cases h;rfl
 | some p =>
  obtain ⟨j,want⟩:=p
  rw [hg] at h
  change Yj0 (j,want) ops.toList fr.tm=some t at h
  unfold Yj0 at h
  simp only
  unfold yielded
  rw [List.at_eq] at h
  simp only [Array.getElem?_toList] at h
  cases ho:ops[j]? with
  | none=>rw [ho] at h;cases h;simp
  | some o' =>
   rw [ho] at h
   simp only at h
   cases hd:o'.dst with
   | none=>rw [hd] at h;cases h;simp [hd]
   | some d =>
    rw [hd] at h
    simp only at h
    simp only [Option.bind_some,hd]
    cases hv:a.tmps[d]? with
    | none =>
     have hn:fr.n≤d:=by
      rw [← hf.slots.size]
      rcases Nat.lt_or_ge d a.tmps.size with q | q
      ·rw [Array.getElem?_eq_getElem q] at hv;cases hv
      ·exact q
     rcases hf.slots.none d hn with e | e
     ·rw [e] at h
      cases h;simp
     ·rw [e] at h
      cases h
    | some v =>
     have hR:=hf.slots.rel d v hv
     split at h
     ·rename_i b' hb'
      rw [hb'] at hR
      have:=(hR.resolve_left (fun e=>by cases e)).bool_inv;subst this
      cases h
      cases b' <;> cases want <;> rfl
     ·cases h
     ·cases h
     ·rename_i h1 h2 h3
      cases h
      have:=(hR.resolve_left (fun e=>h3 _ _ _ _ _ e)).notBool (fun b e=>h1 b e) h2
      cases v <;> first | exact absurd rfl (this _) | simp
variable {P:Program} {E:Env} {ih:Task→Res} {B:Ns} {w0:World}
theorem jY0 {g g':Gh} {h':Heap} {w':World} {b:Frame} {k:List Item} {cs:List Frame} {fr:Fr} {a:Act} {o:Oper} {m:Machine} {ops:Array Oper} {rest:List Nat} {next:Fr→Heap→Res}
 (hg:Grown B g g') (_hW:W B w0 g' h' w') (hG:GlobOk E.glob g.S) (hf:FrOk g b fr a) {v:Value} {y:V} (hR:R g' v y) (hs:Steps P m (lone (b.atR (a.put o.dst v) (.inRegion ops rest::k)) cs w'))
 (hn:∀ fr' a',GlobOk E.glob g'.S→FrOk g' b fr' a'→CodeOk P B w0 g' (lone (b.atR a' (.inRegion ops rest::k)) cs w') b k cs (next fr' h')):CodeOk P B w0 g m b k cs (zM0 o fr next y h'):=by
 unfold zM0
 cases hp:fr.put o.dst y with
 | none=>trivial
 | some fr'=>exact .of_steps hs hg (hn fr' _ (hG.mono hg.ext.S) ((hf.mono hg.ext).put hR hp))
theorem PureOk.of_run (hI:Snd P E ih) {f:FuncId} {gs:List V} {y v:V} {hc:Heap} (hr:ih (.call f gs Heap.empty)=.ret y hc) (ha:Ye0 hc y=some v):PureOk P E.glob f gs v:=by
 intro S w cs us hs hG hus
 have hc:=hI.call cs f gs us (W.start hs) hG hus
 rw [hr] at hc
 obtain ⟨g',w',u,hg,hW,hR,hret⟩:=hc
 obtain ⟨S',h',bs,hg',hW',hA,hn,hb⟩:=qy2 hW hR ha
 have hgg:=hg.trans hg'
 exact ⟨S',w',u,bs,hgg.ext.S,fun b o v hb e=>hgg.keep b o v hb e,hW'.shut,hW'.low.below,hA,hn,fun b q=>⟨Nat.not_lt.1 (hb b q).1,(hb b q).2⟩,hret⟩
theorem PurePan.of_run (hI:Snd P E ih) {f:FuncId} {gs:List V} {y v:V} {hc h':Heap} (hr:ih (.call f gs Heap.empty)=.panic y hc) (ha:pub [] depth hc y=some (v,h')):PurePan P E.glob f gs v:=by
 intro S w cs us hs hG hus
 have hc:=hI.call cs f gs us (W.start hs) hG hus
 rw [hr] at hc
 obtain ⟨g',w',u,hg,hW,hR,hret⟩:=hc
 obtain ⟨S',hp,hA,_⟩:=ju0 [] depth hW hR ha
 have hgg:=hg.trans hp.grown
 exact ⟨S',w',u,hgg.ext.S,fun b o v hb e=>hgg.keep b o v hb e,hp.world.shut,hp.world.low.below,hA,hret⟩
theorem PureOk.call {g:Gh} {h:Heap} {w:World} (hW:W B w0 g h w) (hG:GlobOk E.glob g.S) (cs:List Frame) {f:FuncId} {gs:List V} {us:Array Value} {v:V} (hs:us.size=gs.length∧∀ (i:Nat) u x,us[i]?=some u→gs[i]?=some x→GR g.S u x) (hP:PureOk P E.glob f gs v):CallOk P B w0 g cs f us w (thawR h v):=by
 obtain ⟨S',w',y,bs,hm,hk,hS,hl,hA,hn,hb,hret⟩:=hP _ _ cs us hW.shut hG ⟨hs.1,fun i u x p q=>.gnd (hs.2 i u x p q)⟩
 obtain ⟨hg1,hW1⟩:=hW.join hl hm hk hS
 obtain ⟨g2,t,hR⟩:=zZ2 hW1 hA (fun b hb'=>⟨fun hB=>by have:=hb b hb';have:=hW.base b hB;omega,(hb b hb').2,fun q x hq=>by have:=(hW.high q x hq).2;have:=(hb b hb').1;omega⟩) hn
 exact ⟨g2,w',y,hg1.trans t.grown,t.world,hR,hret⟩
theorem PurePan.call {g:Gh} {h:Heap} {w:World} (hW:W B w0 g h w) (hG:GlobOk E.glob g.S) (cs:List Frame) {f:FuncId} {gs:List V} {us:Array Value} {v:V} (hs:us.size=gs.length∧∀ (i:Nat) u x,us[i]?=some u→gs[i]?=some x→GR g.S u x) (hP:PurePan P E.glob f gs v):CallOk P B w0 g cs f us w (.panic v h):=by
 obtain ⟨S',w',y,hm,hk,hS,hl,hA,hret⟩:=hP _ _ cs us hW.shut hG ⟨hs.1,fun i u x p q=>.gnd (hs.2 i u x p q)⟩
 obtain ⟨hg1,hW1⟩:=hW.join hl hm hk hS
 exact ⟨_,w',y,hg1,hW1,.gnd hA,hret⟩
theorem CallOk.grow {g g':Gh} {cs:List Frame} {f:FuncId} {us:Array Value} {w:World} {r:Res} (hg:Grown B g g') (h:CallOk P B w0 g' cs f us w r):CallOk P B w0 g cs f us w r:=by
 cases r with
 | ret y h1=>obtain ⟨g2,w',v,a,b,c,d⟩:=h;exact ⟨g2,w',v,hg.trans a,b,c,d⟩
 | panic y h1=>obtain ⟨g2,w',v,a,b,c,d⟩:=h;exact ⟨g2,w',v,hg.trans a,b,c,d⟩
 | none _ _=>trivial
 | code _ _ _=>exact h
 | dret _ _=>exact h
theorem PureOk.still {g:Gh} {h:Heap} {w:World} (hW:W B w0 g h w) (hG:GlobOk E.glob g.S) (cs:List Frame) {f:FuncId} {gs:List V} {us:Array Value} {v:V} (hs:us.size=gs.length∧∀ (i:Nat) u x,us[i]?=some u→gs[i]?=some x→GR g.S u x) (hP:PureOk P E.glob f gs v):CallOk P B w0 g cs f us w (Jo0 h v):=by
 obtain ⟨S',w',y,bs,hm,hk,hS,hl,hA,hn,hb,hret⟩:=hP _ _ cs us hW.shut hG ⟨hs.1,fun i u x p q=>.gnd (hs.2 i u x p q)⟩
 obtain ⟨hg1,hW1⟩:=hW.join hl hm hk hS
 obtain ⟨S2,t,hR⟩:=zI2 hW1 hA (fun b hb'=>⟨fun hB=>by have:=hb b hb';have:=hW.base b hB;omega,(hb b hb').2,fun q x hq=>by have:=(hW.high q x hq).2;have:=(hb b hb').1;omega⟩) hn
 exact ⟨_,w',y,hg1.trans t.grown,t.world,.gnd hR,hret⟩
theorem PureOk.plain {g:Gh} {h h1:Heap} {w:World} {S:Nat→Nat→Option Value} (hW:W B w0 g h w) (hW1:W B w0 (g.say S) h1 w) (hS:∀ b o v,g.S b o=some v→S b o=some v) (hG:GlobOk E.glob S) (cs:List Frame) {f:FuncId} {gs:List V} {us:Array Value} {v:V} (hs:us.size=gs.length∧∀ (i:Nat) u x,us[i]?=some u→gs[i]?=some x→GR S u x) (hv:YZ0 v=true) (hP:PureOk P E.glob f gs v):CallOk P B w0 g cs f us w (.ret v h):=by
 obtain ⟨S',w',y,bs,hm,hk,hS',hl,hA,hn,hb,hret⟩:=hP _ _ cs us hW1.shut hG ⟨hs.1,fun i u x p q=>.gnd (hs.2 i u x p q)⟩
 obtain ⟨hg2,hW2⟩:=hW.join (S:=g.S) hl (fun _ _ _ e=>e) (fun _ _ _ _ e=>e) (fun b o v e=>hS' b o v (hm b o v (hS b o v e)))
 exact ⟨_,w',y,hg2,hW2,GM1 hA hv _,hret⟩
theorem PureOk.given {g:Gh} {h h1:Heap} {w:World} (hW:W B w0 g h w) (hG:GlobOk E.glob g.S) (cs:List Frame) {f:FuncId} {args gs:List V} {us:Array Value} {v:V} (hs:Rs' g us args) (hp:qy0 (pub [] depth) args h=some (gs,h1)) (hP:PureOk P E.glob f gs v):CallOk P B w0 g cs f us w (QK0 E f (Bool.rec h1 h (E.borrow f)) v):=by
 obtain ⟨S,k,n1,g1,_⟩:=jc0 (ju0 [] depth) args (vs:=us.toList) hW (by simpa using hs.1) (fun i v x a b=>hs.2 i v x (by simpa using a) b) hp
 have hG':GlobOk E.glob (g.say S).S:=hG.mono k.grown.ext.S
 have hgs:us.size=gs.length∧∀ (i:Nat) u x,us[i]?=some u→gs[i]?=some x→GR (g.say S).S u x:=⟨by rw [n1];exact hs.1,fun i u x a b=>g1 i u x (by simpa using a) b⟩
 unfold QK0 give
 cases hb:E.borrow f with
 | false =>
  refine CallOk.grow k.grown ?_
  cases hd:E.data f with
  | false=>exact PureOk.call k.world hG' cs hgs hP
  | true=>exact PureOk.still k.world hG' cs hgs hP
 | true =>
  cases hv:YZ0 v with
  | false=>trivial
  | true=>exact PureOk.plain hW k.world k.grown.ext.S hG' cs hgs hv hP
theorem ZQ1 (hI:Snd P E ih) {g:Gh} {h:Heap} {w:World} (hW:W B w0 g h w) (hG:GlobOk E.glob g.S) (cs:List Frame) {f:FuncId} {args:List V} {us:Array Value} (hs:Rs' g us args):CallOk P B w0 g cs f us w (Yw0 E ih f args h):=by
 unfold Yw0
 split
 ·trivial
 ·rename_i gs h1 hp
  obtain ⟨S,k,n1,g1,_⟩:=jc0 (ju0 [] depth) args (vs:=us.toList) hW (by simpa using hs.1) (fun i v x a b=>hs.2 i v x (by simpa using a) b) hp
  have hG':GlobOk E.glob (g.say S).S:=hG.mono k.grown.ext.S
  have hgs:us.size=gs.length∧∀ (i:Nat) u x,us[i]?=some u→gs[i]?=some x→GR (g.say S).S u x:=⟨by rw [n1];exact hs.1,fun i u x a b=>g1 i u x (by simpa using a) b⟩
  have give_ok:∀ v,PureOk P E.glob f gs v→CallOk P B w0 g cs f us w (QK0 E f (Bool.rec h1 h (E.borrow f)) v):=fun v hP=>PureOk.given hW hG cs hs hp hP
  split
  ·rename_i v hv
   exact give_ok v (hI.prim f gs v hv)
  ·unfold QI0
   split
   ·rename_i v hc hr
    split
    ·rename_i gv ha
     exact give_ok gv (PureOk.of_run hI hr ha)
    ·trivial
   ·rename_i v hc hr
    split
    ·rename_i gv _ ha
     cases hb:E.borrow f with
     | false=>exact CallOk.grow k.grown (PurePan.call k.world hG' cs hgs (PurePan.of_run hI hr ha))
     | true=>trivial
    ·trivial
   ·trivial
   ·trivial
theorem za1 (hI:Snd P E ih) {g:Gh} {h:Heap} {w:World} (hW:W B w0 g h w) (hG:GlobOk E.glob g.S) (cs:List Frame) {f:FuncId} {args:List V} {us:Array Value} (hs:Rs' g us args):CallOk P B w0 g cs f us w (Kv0 E ih f args h):=by
 unfold Kv0
 have hc:=hI.call cs f args us hW hG hs
 cases E.pubRet f with
 | false=>exact hc
 | true =>
  simp only
  unfold Qm0
  split
  ·rename_i v h1 hr
   rw [hr] at hc
   obtain ⟨g',w',u,hg,hW',hR,hret⟩:=hc
   split
   ·rename_i v' h2 hp
    obtain ⟨S,k,q,_⟩:=ju0 [] depth hW' hR hp
    exact ⟨_,w',u,hg.trans k.grown,k.world,.gnd q,hret⟩
   ·trivial
  ·exact hc
theorem qZ1 (hI:Snd P E ih) {g:Gh} {h:Heap} {w:World} (hW:W B w0 g h w) (hG:GlobOk E.glob g.S) (cs:List Frame) {f:FuncId} {args:List V} {us:Array Value} (hs:Rs' g us args):CallOk P B w0 g cs f us w (zV0 E ih false f args h):=by
 unfold zV0
 cases E.shared f with
 | false=>exact ZQ1 hI hW hG cs hs
 | true=>exact za1 hI hW hG cs hs
theorem Zl0 {b:Frame} {a:Act} {k:List Item} {cs:List Frame} {w w':World} {ops:Array Oper} {i:Nat} {rest:List Nat} {o:Oper} {v:Value} (ho:ops[i]?=some o) (hw:Region.wanted o (yielded ops a.tmps)=true)
 (hr:(o.semAt b.roundOf a.eval).run P w=.ok (.value v) w'):Go.step P (lone (b.atR a (.inRegion ops (i::rest)::k)) cs w)=.next (lone (b.atR (a.put o.dst v) (.inRegion ops rest::k)) cs w'):=by
 have hfin:(b.atR a (.inRegion ops (i::rest)::k)).finish v=b.atR (a.put o.dst v) (.inRegion ops rest::k):=by rw [Frame.finish_atR,ho];rfl
 refine step_lone_go ?_
 rw [stepGR_op ho hw,← hfin];simp [stepG.apply,hr]
theorem qJ1 {b:Frame} {a:Act} {k:List Item} {cs:List Frame} {w w':World} {ops:Array Oper} {i:Nat} {rest:List Nat} {o:Oper} (ho:ops[i]?=some o) (hw:Region.wanted o (yielded ops a.tmps)=true)
 (hr:(o.semAt b.roundOf a.eval).run P w=.ok .skip w'):Go.step P (lone (b.atR a (.inRegion ops (i::rest)::k)) cs w)=.next (lone (b.atR (a.put o.dst Go.undef) (.inRegion ops rest::k)) cs w'):=by
 have hfin:(b.atR a (.inRegion ops (i::rest)::k)).finish Go.undef=b.atR (a.put o.dst Go.undef) (.inRegion ops rest::k):=by rw [Frame.finish_atR,ho];rfl
 refine step_lone_go ?_
 rw [stepGR_op ho hw,← hfin];simp [stepG.apply,hr]
theorem JA0 {b:Frame} {a:Act} {k:List Item} {cs:List Frame} {w w':World} {ops:Array Oper} {i:Nat} {rest:List Nat} {o:Oper} {f:FuncId} {us:Array Value} (ho:ops[i]?=some o) (hw:Region.wanted o (yielded ops a.tmps)=true)
 (hr:(o.semAt b.roundOf a.eval).run P w=.ok (.enter f us) w'):Go.step P (lone (b.atR a (.inRegion ops (i::rest)::k)) cs w)=.next (lone (Frame.enter P f us .normal) (b.atR a (.inRegion ops (i::rest)::k)::cs) w'):=by
 refine step_lone_go ?_
 rw [stepGR_op ho hw];simp [stepG.apply,hr,Frame.atR]
theorem JB0 {b:Frame} {a:Act} {k:List Item} {cs:List Frame} {w w':World} {ops:Array Oper} {i:Nat} {rest:List Nat} {o:Oper} {l fn:Nat} {tmps:Array Value} {as bd:Code} (ho:ops[i]?=some o) (hw:Region.wanted o (yielded ops a.tmps)=true)
 (hr:(o.semAt b.roundOf a.eval).run P w=.ok (.round l fn tmps as bd) w'):Go.step P (lone (b.atR a (.inRegion ops (i::rest)::k)) cs w)=.next (lone (Frame.round l fn tmps as bd .normal) (b.atR a (.inRegion ops (i::rest)::k)::cs) w'):=by
 refine step_lone_go ?_
 rw [stepGR_op ho hw];simp [stepG.apply,hr]
theorem qI1 {b:Frame} {a:Act} {k:List Item} {cs:List Frame} {w w':World} {ops:Array Oper} {i:Nat} {rest:List Nat} {o:Oper} {v:Value} (ho:ops[i]?=some o) (hw:Region.wanted o (yielded ops a.tmps)=true)
 (hr:(o.semAt b.roundOf a.eval).run P w=.halt (.panic v) w'):Go.step P (lone (b.atR a (.inRegion ops (i::rest)::k)) cs w)=.next (lone { b.atR a (.inRegion ops (i::rest)::k) with mode:=.panicking (Qk0 v) } cs w'):=by
 refine step_lone_go ?_
 rw [stepGR_op ho hw,← Frame.raise_atR];simp [stepG.apply,hr,Qk0]
theorem QU1 {g g1:Gh} {w w1:World} {b:Frame} {k:List Item} {cs:List Frame} {fr:Fr} {a:Act} {o:Oper} {ops:Array Oper} {i:Nat} {rest:List Nat} {next:Fr→Heap→Res} {f:FuncId} {us:Array Value} {r:Res}
 (ho:ops[i]?=some o) (hw:Region.wanted o (yielded ops a.tmps)=true) (hr:(o.semAt b.roundOf a.eval).run P w=(callFunc f us).run P w1)
 (hg:Grown B g g1) (hG:GlobOk E.glob g.S) (hf:FrOk g b fr a) (hc:CallOk P B w0 g1 (b.atR a (.inRegion ops (i::rest)::k)::cs) f us w1 r)
 (hn:∀ g' h' w' fr' a',Grown B g g'→W B w0 g' h' w'→GlobOk E.glob g'.S→FrOk g' b fr' a'→CodeOk P B w0 g' (lone (b.atR a' (.inRegion ops rest::k)) cs w') b k cs (next fr' h')) :
 CodeOk P B w0 g (lone (b.atR a (.inRegion ops (i::rest)::k)) cs w) b k cs (Yn0 o fr next (fun v h=>.code (.panic v) fr h) r):=by
 have hfin:∀ v,(b.atR a (.inRegion ops (i::rest)::k)).finish v=b.atR (a.put o.dst v) (.inRegion ops rest::k):=fun v=>by rw [Frame.finish_atR,ho];rfl
 cases r with
 | code _ _ _=>exact hc.elim
 | dret _ _=>exact hc.elim
 | none _ _=>trivial
 | ret y h' =>
  obtain ⟨g',w',v,hg',hW',hR,hret⟩:=hc
  have hgg:=hg.trans hg'
  refine jY0 (h':=h') (w':=w') hgg hW' hG hf hR ?_ (fun fr' a' p q=>hn g' h' w' fr' a' hgg hW' p q)
  rcases hret with hv | ⟨he,frx,s1,_,s2⟩
  ·exact .one (Zl0 ho hw (hr.trans hv))
  ·refine .head (JA0 ho hw (hr.trans he)) (s1.trans (.one ?_))
   rw [← hfin];exact step_leave_returned s2
 | panic y h' =>
  obtain ⟨g',w',v,hg',hW',hR,he,frx,s1,_,s2⟩:=hc
  have hgg:=hg.trans hg'
  refine ⟨g',a,w',hgg,hW',(hf.mono hgg.ext).weak,v,.inRegion ops (i::rest)::k,hR,.head (JA0 ho hw (hr.trans he)) (s1.trans (.one ?_))⟩
  rw [← Frame.raise_atR];exact step_leave_panicked s2
theorem QW1 {g g1:Gh} {w w1:World} {b:Frame} {k:List Item} {cs:List Frame} {fr:Fr} {a:Act} {o:Oper} {ops:Array Oper} {i:Nat} {rest:List Nat} {next:Fr→Heap→Res} {l:Nat} {us:Array Value} {r:Res}
 (ho:ops[i]?=some o) (hw:Region.wanted o (yielded ops a.tmps)=true) (hr:(o.semAt b.roundOf a.eval).run P w=(Instr.yield l us).run P w1)
 (hg:Grown B g g1) (hG:GlobOk E.glob g.S) (hf:FrOk g b fr a) (hc:Ju0 P B w0 g1 (b.atR a (.inRegion ops (i::rest)::k)) cs l us w1 r)
 (hn:∀ g' h' w' fr' a',Grown B g g'→W B w0 g' h' w'→GlobOk E.glob g'.S→FrOk g' b fr' a'→CodeOk P B w0 g' (lone (b.atR a' (.inRegion ops rest::k)) cs w') b k cs (next fr' h')) :
 CodeOk P B w0 g (lone (b.atR a (.inRegion ops (i::rest)::k)) cs w) b k cs (Yn0 o fr next (fun v h=>.code (.panic v) fr h) r):=by
 have hfin:∀ v,(b.atR a (.inRegion ops (i::rest)::k)).finish v=b.atR (a.put o.dst v) (.inRegion ops rest::k):=fun v=>by rw [Frame.finish_atR,ho];rfl
 cases r with
 | code _ _ _=>exact hc.elim
 | dret _ _=>exact hc.elim
 | none _ _=>trivial
 | ret y h' =>
  obtain ⟨g',w',v,hg',hW',hR,fn,tmps,as,bd,he,hst⟩:=hc
  have hgg:=hg.trans hg'
  refine jY0 (h':=h') (w':=w') hgg hW' hG hf hR ?_ (fun fr' a' p q=>hn g' h' w' fr' a' hgg hW' p q)
  refine .head (JB0 ho hw (hr.trans he)) ?_
  rw [← hfin];exact hst
 | panic y h' =>
  obtain ⟨g',w',v,hg',hW',hR,fn,tmps,as,bd,he,hst⟩:=hc
  have hgg:=hg.trans hg'
  refine ⟨g',a,w',hgg,hW',(hf.mono hgg.ext).weak,v,.inRegion ops (i::rest)::k,hR,.head (JB0 ho hw (hr.trans he)) ?_⟩
  rw [← Frame.raise_atR];exact hst
variable {P:Program} {E:Env} {ih:Task→Res} {B:Ns} {w0:World}
theorem qQ0 (f:V→Bool) (l:List V):qA0 f l=true↔∀ x,x∈l→f x=true:=by
 induction l with
 | nil=>simp [qA0]
 | cons x l ih =>
  change (bif f x then qA0 f l else false)=true↔_
  cases h:f x <;> simp [ih,h]
theorem yA1 (k:Nat) (v:V):ground (k+1) v=match v with
 | .int _ _=>true
 | .bool _=>true
 | .str _=>true
 | .nilp=>true
 | .nils=>true
 | .nilm=>true
 | .nilf=>true
 | .nili=>true
 | .gsl _ _ _=>true
 | .osl _ _=>true
 | .gptr _ _ _=>true
 | .gmap _ _=>true
 | .func f a b=>match f with
  | .func _=>bif qA0 (ground k) a then qA0 (ground k) b else false
  | _=>false
 | .agg vs=>qA0 (ground k) vs
 | .iface _ x=>ground k x
 | _=>false:=rfl
theorem yw1 {g:Gh} (k:Nat):∀ {v:Value} {x:V},R g v x→ground k x=true→GR g.S v x:=by
 induction k with
 | zero=>intro v x _ h;cases h
 | succ k ih =>
  intro v x hR hg
  rw [yA1] at hg
  cases hR with
  | gnd h=>exact h
  | func hf ha hb h1 h2 =>
   rename_i f a b xs ys
   cases f with
   | func f =>
    change (bif qA0 (ground k) xs then qA0 (ground k) ys else false)=true at hg
    obtain ⟨g1,g2⟩:qA0 (ground k) xs=true∧qA0 (ground k) ys=true:=by
     cases e:qA0 (ground k) xs with
     | true=>rw [e] at hg;exact ⟨rfl,hg⟩
     | false=>rw [e] at hg;cases hg
    exact .func ha hb (fun i v x p q=>ih (h1 i v x p q) ((qQ0 _ _).1 g1 x (List.mem_of_getElem? q))) (fun i v x p q=>ih (h2 i v x p q) ((qQ0 _ _).1 g2 x (List.mem_of_getElem? q)))
   | _=>cases hg
  | iface h=>exact .iface (ih h hg)
  | agg hn h1 h =>
   have hg:=(qQ0 _ _).1 hg
   exact .agg hn h1 fun i v x p q=>ih (h i v x p q) (hg x (List.mem_of_getElem? q))
  | _=>cases hg
theorem Xp1 {k:Nat} {e x:V} {j:Nat} (h:ground k e=true) (hx:e.cells[j]?=some x):∃ k',ground k' x=true:=by
 cases k with
 | zero=>cases h
 | succ k =>
  by_cases ha:∃ vs,e=.agg vs
  ·obtain ⟨vs,rfl⟩:=ha
   rw [yA1] at h
   exact ⟨k,(qQ0 _ _).1 h x (List.mem_of_getElem? hx)⟩
  ·rw [Kz0 fun vs he=>ha ⟨vs,he⟩] at hx
   cases j with
   | zero=>cases hx;exact ⟨_,h⟩
   | succ j=>simp at hx
theorem Kg1 {g:Gh} {h:Heap} {w:World} {G:Nat→Option V} {n:Nat} {tm:T V} {a:Act} (hW:W B w0 g h w) (hs:Slots g n tm a.tmps) (hG:GlobOk G g.S) {t:TypeId} {len:Nat} {ps:Array (Nat×Operand)} :
 qw0 P B w0 g ((zd0 (Instr.buildSlice t len (ps.map fun (i,x)=>(i,a.eval x)))).run P w) (Qh0 P G tm h t len ps):=by
 unfold Qh0
 split
 ·trivial
 ·rename_i l hl
  split
  ·trivial
  ·rename_i e he
   split
   ·trivial
   ·rename_i z hz
    cases hb:(Nat.beq (size P e) 0||!(Nat.ble (Nat.mul len (size P e)) 65536)||!(Nat.beq (List.len z.cells) (size P e))||!z.flat) with
    | true=>trivial
    | false =>
     simp only [cond_false]
     split
     ·rename_i es hes
      cases hgr:qA0 (ground 3) es with
      | false=>trivial
      | true =>
       have hgr:=(qQ0 _ _).1 hgr
       simp only [Bool.or_eq_false_iff,Bool.not_eq_false',Nat.ble_eq,Nat.beq_eq,List.len_eq] at hb
       obtain ⟨⟨⟨h1,h2⟩,h3⟩,h4⟩:=hb
       have h0:size P e≠0:=fun q=>by rw [q] at h1;cases h1
       obtain ⟨C,h5,h6,h7⟩:=zq1 (P:=P) hW (KP0 hs hG hl) he hz h0 h2 h3 h4 hes
       have hCs:C.size=len*size P e:=by rw [← h7];simpa using h6.size
       have hw':({ w with heap:=w.heap.push (.cells C e) }:World).heap[w.heap.size]?=some (.cells C e (0,0)):=jl0 w _
       have hm:∀ b o v,g.S b o=some v→said g.S w.heap.size 0 (len*size P e) C b o=some v:=fun b o v hv=>by
        unfold said
        rw [if_neg (fun q=>hW.noS (Nat.le_of_eq q.1.symm) hv)];exact hv
       have hk:∀ b o v,b<w.heap.size→said g.S w.heap.size 0 (len*size P e) C b o=some v→g.S b o=some v:=fun b o v hb hv=>by
        unfold said at hv
        rw [if_neg (fun q=>by omega)] at hv;exact hv
       obtain ⟨hg1,hW1⟩:=hW.join (S:=said g.S w.heap.size 0 (len*size P e) C) (w':={ w with heap:=w.heap.push (.cells C e) }) (Under.push _ w _ fun _ h=>h).below hm hk (fun b o v hv=>by
        unfold said at hv
        split at hv
        ·rename_i hc
         obtain ⟨rfl,_⟩:=hc
         exact ZO0 hw' (jM0 hv).1 (jM0 hv).2
        ·exact Gu0 _ (hW.shut b o v hv))
       refine zz0 ⟨.slice (some ⟨w.heap.size,0,none⟩) len len,_,_,h5,hg1,hW1,.gnd ?_⟩
       have hcell:∀ (i:Nat) x (j:Nat) y,es[i]?=some x→x.cells[j]?=some y→∃ v,C[i*size P e+j]?=some v∧v.oneCell'=true∧R g v y:=fun i x j y a b=>by
        obtain ⟨v,p,q,r⟩:=h6.rel i x j y a b
        exact ⟨v,by simpa using p,q,r⟩
       have e0:Value.slice (some ⟨w.heap.size,0,none⟩) len len=Value.slice (some ⟨w.heap.size,0,none⟩) es.length len:=by rw [h7]
       rw [e0]
       refine .gsl (fun i j=>C.getD (i*size P e+j) Go.undef) (Nat.pos_of_ne_zero h0) h6.elems (fun i x j y a b=>?_) (fun c' e=>by cases e;rfl) (by omega) (fun i x j y a b=>?_)
       ·obtain ⟨v,p,q,_⟩:=hcell i x j y a b
        rw [yN0 p]
        refine ⟨?_,q⟩
        have hi:=qd0 a
        have hj:j<size P e:=by rw [← (h6.elems i x a).1];exact qd0 b
        have:=yP0 (n:=len) (by omega:i<len) hj
        show said g.S w.heap.size 0 (len*size P e) C w.heap.size (0+i*size P e+j)=some v
        unfold said
        rw [Nat.zero_add,if_pos ⟨rfl,Nat.zero_le _,this⟩];exact Zp0 p q
       ·obtain ⟨v,p,_,r⟩:=hcell i x j y a b
        rw [yN0 p]
        obtain ⟨k',hk'⟩:=Xp1 (hgr x (List.mem_of_getElem? a)) b
        exact (yw1 k' r hk').mono hm
     ·trivial
theorem jB1 {g:Gh} {h:Heap} {w:World} {G:Nat→Option V} {n:Nat} {tm:T V} {a:Act} (hW:W B w0 g h w) (hs:Slots g n tm a.tmps) (hG:GlobOk G g.S) (o:Oper):qw0 P B w0 g ((execOp a.eval o).run P w) (qt0 P G tm h o):=by
 unfold qt0
 split
 ·rename_i t len ps ho
  unfold execOp
  rw [ho]
  exact Kg1 hW hs hG
 ·exact GK0 hW hs hG o
variable {P:Program} {E:Env} {ih:Task→Res} {B:Ns} {w0:World}
theorem zl1 {o:Oper} {fr:Fr} {next:Fr→Heap→Res} {f:FuncId} {args:List V} {h:Heap}:(fr.round=none∧fr.marks=[]∧QE0 o fr next f args h=zM0 o { fr with defers:=(f,args)::fr.defers } next undef h)∨QE0 o fr next f args h=.none fr.fn (some o):=by
 obtain ⟨fn,n,tm,marks,defers,round,dk,did⟩:=fr
 cases round with
 | some _=>exact .inr rfl
 | none =>
  cases marks with
  | nil=>exact .inl ⟨rfl,rfl,rfl⟩
  | cons _ _=>exact .inr rfl
theorem Zk1 {b:Frame} {a:Act} {k:List Item} {cs:List Frame} {w w':World} {ops:Array Oper} {i:Nat} {rest:List Nat} {o:Oper} {d:Deferred} (ho:ops[i]?=some o) (hw:Region.wanted o (yielded ops a.tmps)=true)
 (hr:(o.semAt b.roundOf a.eval).run P w=.ok (.defer d) w'):Go.step P (lone (b.atR a (.inRegion ops (i::rest)::k)) cs w)=.next (lone (b.atR { a.put o.dst Go.undef with defers:=d::a.defers } (.inRegion ops rest::k)) cs w'):=by
 have hfin:({ b.atR a (.inRegion ops (i::rest)::k) with defers:=d::a.defers }:Frame).finish Go.undef=b.atR { a.put o.dst Go.undef with defers:=d::a.defers } (.inRegion ops rest::k):=by
  have:=Frame.finish_atR (b:=b) (a:={ a with defers:=d::a.defers }) (ops:=ops) (i:=i) (rest:=rest) (k:=k) (v:=Go.undef)
  have e:({ b.atR a (.inRegion ops (i::rest)::k) with defers:=d::a.defers }:Frame)=b.atR { a with defers:=d::a.defers } (.inRegion ops (i::rest)::k):=rfl
  rw [e,this,ho]
  cases hd:o.dst <;> simp [Act.put,hd]
 refine step_lone_go ?_
 rw [stepGR_op ho hw,← hfin];simp [stepG.apply,hr,Frame.atR]
theorem Gn1 {c:Call} {o:Oper} (hc:o.op=.defer c) (G:Nat→Option V) (tm:T V) (h:Heap):qt0 P G tm h o=yc0 G tm h c:=by
 unfold qt0;rw [hc];exact Xx0 hc
theorem Gl1 {c:Call} {o:Oper} (hc:o.op=.defer c) (lit:Bool) (G:Nat→Option V) (tm:T V) (h:Heap):qm0 lit P G tm h o=yc0 G tm h c:=by
 cases lit with
 | false=>exact Xx0 hc
 | true =>
  change QW0 (qt0 P G tm h o) (qC0 P G tm h o)=_
  rw [Gn1 hc,Xx0 hc]
  unfold QW0
  split <;> rfl
theorem GJ0 {g:Gh} {h:Heap} {w:World} {G:Nat→Option V} {n:Nat} {tm:T V} {a:Act} (lit:Bool) (hW:W B w0 g h w) (hs:Slots g n tm a.tmps) (hG:GlobOk G g.S) (o:Oper):qw0 P B w0 g ((execOp a.eval o).run P w) (qm0 lit P G tm h o):=by
 cases lit with
 | false=>exact GK0 hW hs hG o
 | true =>
  change qw0 P B w0 g _ (QW0 (qt0 P G tm h o) (qC0 P G tm h o))
  unfold QW0
  split
  ·exact GK0 hW hs hG o
  ·exact jB1 hW hs hG o
theorem Jx0 (hI:Snd P E ih) {g:Gh} {h:Heap} {w:World} {b:Frame} {k:List Item} {cs:List Frame} {fr:Fr} {a:Act} {o:Oper} {ops:Array Oper} {i:Nat} {rest:List Nat} {next:Fr→Heap→Res}
 (ho:ops[i]?=some o) (hw:Region.wanted o (yielded ops a.tmps)=true) (hW:W B w0 g h w) (hG:GlobOk E.glob g.S) (hf:FrOk g b fr a)
 (hn:∀ g' h' w' fr' a',Grown B g g'→W B w0 g' h' w'→GlobOk E.glob g'.S→FrOk g' b fr' a'→CodeOk P B w0 g' (lone (b.atR a' (.inRegion ops rest::k)) cs w') b k cs (next fr' h')) :
 CodeOk P B w0 g (lone (b.atR a (.inRegion ops (i::rest)::k)) cs w) b k cs (qM0 E ih false o fr next (fun v h=>.code (.panic v) fr h) (qm0 (E.lit fr.fn) P E.glob fr.tm h o)):=by
 generalize E.lit fr.fn=lit
 by_cases hd:(∃ c,o.op=.defer c)∧fr.round≠none
 ·obtain ⟨⟨c,hc⟩,hro⟩:=hd
  rw [Gl1 hc]
  rcases jw1 E.glob fr.tm h c with e | ⟨f,args,e⟩
  ·rw [e];trivial
  ·rw [e]
   change CodeOk P B w0 g _ b k cs (QE0 o fr next f args h)
   rcases zl1 (o:=o) (fr:=fr) (next:=next) (f:=f) (args:=args) (h:=h) with ⟨hro',_,_⟩ | e2
   ·exact absurd hro' hro
   ·rw [e2];trivial
 ·have hsem:o.semAt b.roundOf a.eval=execOp a.eval o:=by
   by_cases hro:fr.round=none
   ·have hb:b.roundOf=none:=by have:=hf.round;rw [hro] at this;exact this
    rw [hb,Oper.semAt_none]
   ·exact Oper.semAt_eq _ _ _ (fun c e=>hd ⟨⟨c,e⟩,hro⟩)
  have hgood:=GJ0 (P:=P) lit hW hf.slots hG o
  rw [← hsem] at hgood
  cases hr:qm0 lit P E.glob fr.tm h o with
  | val y h' =>
   rw [hr] at hgood
   obtain ⟨v,w',g',e,hg,hW',hR⟩:=hgood
   exact jY0 (h':=h') (w':=w') hg hW' hG hf hR (.one (Zl0 ho hw e)) (fun fr' a' p q=>hn g' h' w' fr' a' hg hW' p q)
  | skip h' =>
   rw [hr] at hgood
   obtain ⟨w',g',e,hg,hW'⟩:=hgood
   exact jY0 (h':=h') (w':=w') hg hW' hG hf R.undef (.one (qJ1 ho hw e)) (fun fr' a' p q=>hn g' h' w' fr' a' hg hW' p q)
  | call f args h' =>
   rw [hr] at hgood
   obtain ⟨us,w',g',e,hg,hW',hs⟩:=hgood
   exact QU1 ho hw e hg hG hf (qZ1 hI hW' (hG.mono hg.ext.S) _ hs) hn
  | yield l args h' =>
   rw [hr] at hgood
   obtain ⟨us,q,kk,w',g',e,hg,hW',hv,hm,hs⟩:=hgood
   exact QW1 ho hw e hg hG hf (hI.yield _ _ l q kk args us hW' (hG.mono hg.ext.S) hv hm hs) hn
  | panic y h' =>
   rw [hr] at hgood
   obtain ⟨v,w',g',e,hg,hW',hR⟩:=hgood
   exact ⟨g',a,w',hg,hW',(hf.mono hg.ext).weak,v,_,hR,.one (qI1 ho hw e)⟩
  | defer f args h' =>
   rw [hr] at hgood
   obtain ⟨us,cap,w',g',e,hg,hW',hs⟩:=hgood
   change CodeOk P B w0 g _ b k cs (QE0 o fr next f args h')
   rcases zl1 (o:=o) (fr:=fr) (next:=next) (f:=f) (args:=args) (h:=h') with ⟨hro,hma,e2⟩ | e2
   ·rw [e2]
    have hfm:=hf.mono hg.ext
    have hf2:FrOk g' b { fr with defers:=(f,args)::fr.defers } { a with defers:={ target:=.fn (.func f) cap,args:=us }::a.defers }:=by
     refine ⟨hfm.fn,hfm.slots,hfm.round,.inr ⟨hma,?_⟩⟩
     have hdc:=hfm.marks
     rw [hma] at hdc
     have hdc:=hdc.calls
     refine ⟨by simp [hdc.1],fun i d q hd hq=>?_⟩
     cases i with
     | zero=>simp at hd hq;subst hd;subst hq;exact ⟨us,cap,rfl,hs⟩
     | succ i=>exact hdc.2 i d q (by simpa using hd) (by simpa using hq)
    unfold zM0
    cases hp:({ fr with defers:=(f,args)::fr.defers }:Fr).put o.dst undef with
    | none=>trivial
    | some fr' =>
     have hput:({ a with defers:=({ target:=.fn (.func f) cap,args:=us }:Deferred)::a.defers }:Act).put o.dst Go.undef={ a.put o.dst Go.undef with defers:={ target:=.fn (.func f) cap,args:=us }::a.defers }:=by
      cases o.dst <;> rfl
     have hf3:=hf2.put R.undef hp
     rw [hput] at hf3
     exact .of_steps (.one (Zk1 ho hw e)) hg (hn g' h' w' fr' _ hg hW' (hG.mono hg.ext.S) hf3)
   ·rw [e2];trivial
  | recover h'=>trivial
  | stuck=>trivial
theorem Qf1 (hI:Snd P E ih) {b:Frame} {k:List Item} {cs:List Frame} {ops:Array Oper}:∀ (l:List Oper) (i:Nat),ops.toList.drop i=l→∀ {g:Gh} {h:Heap} {w:World} {fr:Fr} {a:Act},W B w0 g h w→GlobOk E.glob g.S→FrOk g b fr a →
 CodeOk P B w0 g (lone (b.atR a (.inRegion ops (List.range' i l.length)::k)) cs w) b k cs (Zc0 P E ih ops.toList l fr h):=by
 intro l
 induction l with
 | nil =>
  intro i _ g h w fr a hW hG hf
  exact ⟨g,a,w,Grown.refl _ _,hW,hf,.one stepR_region_end⟩
 | cons o l IH =>
  intro i hl g h w fr a hW hG hf
  have ho:ops[i]?=some o:=by
   have:(ops.toList.drop i)[0]?=some o:=by rw [hl];rfl
   rw [List.getElem?_drop] at this
   simpa using this
  have hl':ops.toList.drop (i+1)=l:=by
   rw [← List.drop_drop,hl];rfl
  rw [List.length_cons,List.range'_succ]
  change CodeOk P B w0 g _ b k cs (Je0 P E ih ops.toList o (Zc0 P E ih ops.toList l) fr h)
  unfold Je0
  cases hwt:wanted ops.toList fr o with
  | none=>trivial
  | some t =>
   have hw:=Jt0 hf hwt
   cases t with
   | true=>exact Jx0 hI ho hw hW hG hf fun g' h' w' fr' a' hg hW' hG' hf'=>IH (i+1) hl' hW' hG' hf'
   | false =>
    have hs:=stepR_op_skip (P:=P) (b:=b) (a:=a) (k:=k) (cs:=cs) (w:=w) (ops:=ops) (i:=i) (rest:=List.range' (i+1) l.length) (by simp [ho];simpa using hw)
    simp only [ho,Option.bind_some] at hs
    exact jY0 (h':=h) (w':=w) (Grown.refl _ _) hW hG hf R.undef (.one hs) (fun fr' a' p q=>IH (i+1) hl' hW p q)
theorem qu2 (hI:Snd P E ih) {b:Frame} {k:List Item} {cs:List Frame} {ops:Array Oper} {id:Nat} {g:Gh} {h:Heap} {w:World} {fr:Fr} {a:Act} (hW:W B w0 g h w) (hG:GlobOk E.glob g.S) (hf:FrOk g b fr a) :
 CodeOk P B w0 g (lone (b.atR a (.code (.region id ops false)::k)) cs w) b k cs (Ql1 P E ih ops false fr h):=by
 refine .of_steps (.one stepR_region) (Grown.refl _ _) ?_
 have:=Qf1 hI (k:=k) (cs:=cs) (ops:=ops) ops.toList 0 (by simp) hW hG hf
 rw [Array.length_toList,← List.range_eq_range'] at this
 exact this
variable {P:Program} {E:Env} {ih:Task→Res} {B:Ns} {w0:World}
theorem ZT1 (hI:Snd P E ih) {g:Gh} {h:Heap} {w:World} (hW:W B w0 g h w) (hG:GlobOk E.glob g.S) (cs:List Frame) {f:FuncId} {args:List V} {us:Array Value} (hs:Rs' g us args):CallOk P B w0 g cs f us w (yj0 E ih f args h):=by
 unfold yj0
 cases hgr:qA0 (ground 3) args with
 | false=>trivial
 | true =>
  have hgr:=(qQ0 _ _).1 hgr
  have hgs:us.size=args.length∧∀ (i:Nat) u x,us[i]?=some u→args[i]?=some x→GR g.S u x:=⟨hs.1,fun i u x p q=>yw1 3 (hs.2 i u x p q) (hgr x (List.mem_of_getElem? q))⟩
  simp only [cond_true]
  split
  ·rename_i v hv
   exact PureOk.still hW hG cs hgs (hI.prim f args v hv)
  ·unfold QI0
   split
   ·rename_i v hc hr
    split
    ·rename_i gv ha
     exact PureOk.still hW hG cs hgs (PureOk.of_run hI hr ha)
    ·trivial
   ·rename_i v hc hr
    split
    ·rename_i gv _ ha
     exact PurePan.call hW hG cs hgs (PurePan.of_run hI hr ha)
    ·trivial
   ·trivial
   ·trivial
theorem ZN1 (hI:Snd P E ih) (lit:Bool) {g:Gh} {h:Heap} {w:World} (hW:W B w0 g h w) (hG:GlobOk E.glob g.S) (cs:List Frame) {f:FuncId} {args:List V} {us:Array Value} (hs:Rs' g us args):CallOk P B w0 g cs f us w (zV0 E ih lit f args h):=by
 cases lit with
 | false=>exact qZ1 hI hW hG cs hs
 | true =>
  unfold zV0
  cases E.shared f with
  | false=>exact ZT1 hI hW hG cs hs
  | true=>exact za1 hI hW hG cs hs
def OutOk (P:Program) (B:Ns) (w0:World) (g:Gh) (m:Machine) (b:Frame) (a:Act) (o:Oper) (ops:Array Oper) (rest:List Nat) (k:List Item) (cs:List Frame):Outc→Prop
 | .val y h=>∃ g' w v,Grown B g g'∧W B w0 g' h w∧R g' v y∧Steps P m (lone (b.atR (a.put o.dst v) (.inRegion ops rest::k)) cs w)
 | .panic y h=>∃ g' w v todo,Grown B g g'∧W B w0 g' h w∧R g' v y∧Steps P m (lone { b.atR a todo with mode:=.panicking (Qk0 v) } cs w)
 | .stuck=>True
theorem zm1 (hI:Snd P E ih) {g:Gh} {h:Heap} {w:World} {b:Frame} {k:List Item} {cs:List Frame} {fr:Fr} {a:Act} {o:Oper} {ops:Array Oper} {i:Nat} {rest:List Nat}
 (ho:ops[i]?=some o) (hw:Region.wanted o (yielded ops a.tmps)=true) (hW:W B w0 g h w) (hG:GlobOk E.glob g.S) (hf:FrOk g b fr a) :
 OutOk P B w0 g (lone (b.atR a (.inRegion ops (i::rest)::k)) cs w) b a o ops rest k cs (qn0 P E ih fr.tm h o):=by
 by_cases hd:∃ c,o.op=.defer c
 ·obtain ⟨c,hc⟩:=hd
  have:qt0 P E.glob fr.tm h o=yc0 E.glob fr.tm h c:=by
   unfold qt0;rw [hc];exact Xx0 hc
  unfold qn0;rw [this]
  rcases jw1 E.glob fr.tm h c with e | ⟨f,args,e⟩ <;> rw [e] <;> trivial
 ·have hsem:o.semAt b.roundOf a.eval=execOp a.eval o:=Oper.semAt_eq _ _ _ (fun c e=>hd ⟨c,e⟩)
  have hgood:=jB1 (P:=P) hW hf.slots hG o
  rw [← hsem] at hgood
  have hfin:∀ v,(b.atR a (.inRegion ops (i::rest)::k)).finish v=b.atR (a.put o.dst v) (.inRegion ops rest::k):=fun v=>by rw [Frame.finish_atR,ho];rfl
  unfold qn0
  cases hr:qt0 P E.glob fr.tm h o with
  | val y h' =>
   rw [hr] at hgood
   obtain ⟨v,w',g',e,hg,hW',hR⟩:=hgood
   exact ⟨g',w',v,hg,hW',hR,.one (Zl0 ho hw e)⟩
  | skip h' =>
   rw [hr] at hgood
   obtain ⟨w',g',e,hg,hW'⟩:=hgood
   exact ⟨g',w',_,hg,hW',R.undef,.one (qJ1 ho hw e)⟩
  | call f args h' =>
   rw [hr] at hgood
   obtain ⟨us,w',g',e,hg,hW',hs⟩:=hgood
   have hc:=ZN1 hI true hW' (hG.mono hg.ext.S) (b.atR a (.inRegion ops (i::rest)::k)::cs) hs (f:=f)
   simp only
   cases hres:zV0 E ih true f args h' with
   | ret y h2 =>
    rw [hres] at hc
    obtain ⟨g2,w2,v,hg2,hW2,hR,hret⟩:=hc
    refine ⟨g2,w2,v,hg.trans hg2,hW2,hR,?_⟩
    rcases hret with hv | ⟨he,frx,s1,_,s2⟩
    ·exact .one (Zl0 ho hw (e.trans hv))
    ·refine .head (JA0 ho hw (e.trans he)) (s1.trans (.one ?_))
     rw [← hfin];exact step_leave_returned s2
   | panic y h2 =>
    rw [hres] at hc
    obtain ⟨g2,w2,v,hg2,hW2,hR,he,frx,s1,_,s2⟩:=hc
    refine ⟨g2,w2,v,.inRegion ops (i::rest)::k,hg.trans hg2,hW2,hR,.head (JA0 ho hw (e.trans he)) (s1.trans (.one ?_))⟩
    rw [← Frame.raise_atR];exact step_leave_panicked s2
   | none _ _=>trivial
   | code _ _ _=>trivial
   | dret _ _=>trivial
  | panic y h' =>
   rw [hr] at hgood
   obtain ⟨v,w',g',e,hg,hW',hR⟩:=hgood
   exact ⟨g',w',v,_,hg,hW',hR,.one (qI1 ho hw e)⟩
  | yield l args h' =>
   rw [hr] at hgood
   obtain ⟨us,q,kk,w',g',e,hg,hW',hv,hm,hs⟩:=hgood
   have hc:=hI.yield (b.atR a (.inRegion ops (i::rest)::k)) cs l q kk args us hW' (hG.mono hg.ext.S) hv hm hs
   simp only
   cases hres:ih (.yield l args h') with
   | ret y h2 =>
    rw [hres] at hc
    obtain ⟨g2,w2,v,hg2,hW2,hR,fn,tmps,as,bd,he,hst⟩:=hc
    refine ⟨g2,w2,v,hg.trans hg2,hW2,hR,.head (JB0 ho hw (e.trans he)) ?_⟩
    rw [← hfin];exact hst
   | panic y h2 =>
    rw [hres] at hc
    obtain ⟨g2,w2,v,hg2,hW2,hR,fn,tmps,as,bd,he,hst⟩:=hc
    refine ⟨g2,w2,v,.inRegion ops (i::rest)::k,hg.trans hg2,hW2,hR,.head (JB0 ho hw (e.trans he)) ?_⟩
    rw [← Frame.raise_atR];exact hst
   | none _ _=>trivial
   | code _ _ _=>trivial
   | dret _ _=>trivial
  | defer f args h'=>trivial
  | recover h'=>trivial
  | stuck=>trivial
variable {P:Program} {E:Env} {ih:Task→Res}
theorem KH1 {l:List Operand} {t:Tmp} (h:Operand.tmp t∈l):t∈Yi0 l:=by
 unfold Yi0
 rw [List.mem_filterMap]
 exact ⟨_,h,rfl⟩
theorem YX1 {G:Nat→Option V} {tm tm':T V} {l:List Operand} (h:∀ t,t∈Yi0 l→tm.get undef t=tm'.get undef t) {x:Operand} (hx:x∈l):ev G tm x=ev G tm' x:=by
 cases x with
 | tmp t=>exact congrArg yU0 (h t (KH1 hx))
 | _=>rfl
theorem ZR0 {α β:Type} {f f':α→Option β} {l:List α} (h:∀ x,x∈l→f x=f' x):qc0 f l=qc0 f' l:=by
 induction l with
 | nil=>rfl
 | cons x l ih =>
  rw [yA0,yA0,h x (by simp),ih fun y hy=>h y (by simp [hy])]
theorem zp0 (G:Nat→Option V) (tm:T V) (h:Heap) (x:Operand) (f:V→Option V):o1 G tm h x f=match ev G tm x with | none=>.stuck | some v=>qj0 h (f v):=by
 unfold o1;cases ev G tm x <;> rfl
theorem jq0 (G:Nat→Option V) (tm:T V) (h:Heap) (x y:Operand) (f:V→V→Option V):o2 G tm h x y f=match ev G tm x with | none=>.stuck | some v=>(match ev G tm y with | none=>.stuck | some u=>qj0 h (f v u)):=by
 unfold o2
 cases ev G tm x with
 | none=>rfl
 | some v=>cases h2:ev G tm y <;> simp only [h2]
theorem Gm1 {G:Nat→Option V} {tm tm':T V} (h:Heap) {o:Oper} (ht:∀ t,t∈Yi0 o.op.operands.toList→tm.get undef t=tm'.get undef t):qt0 P G tm h o=qt0 P G tm' h o:=by
 have hx:∀ x,x∈o.op.operands.toList→ev G tm x=ev G tm' x:=fun x hx=>YX1 ht hx
 obtain ⟨dst,op,ty,pos,after,guard⟩:=o
 simp only at hx
 unfold qt0 qC0
 simp only
 cases op with
 | move x=>change yX0 G tm h x=yX0 G tm' h x;unfold yX0;rw [hx x (by simp [Op.operands])]
 | assign x=>change yX0 G tm h x=yX0 G tm' h x;unfold yX0;rw [hx x (by simp [Op.operands])]
 | pick c a b =>
  change yY0 G tm h c a b=yY0 G tm' h c a b
  unfold yY0
  rw [hx c (by simp [Op.operands]),hx a (by simp [Op.operands]),hx b (by simp [Op.operands])]
 | alloc e=>rfl
 | box e x =>
  change oBox G tm h e x=oBox G tm' h e x
  unfold oBox
  rw [hx x (by simp [Op.operands])]
 | build t ps =>
  change yV0 P G tm h t ps=yV0 P G tm' h t ps
  have:evP G tm ps.toList=evP G tm' ps.toList:=by
   unfold evP
   refine ZR0 fun p hp=>?_
   rw [hx p.2 (by simp only [Op.operands,List.mem_map];exact ⟨p,hp,rfl⟩)]
  unfold yV0
  rw [this]
 | buildSlice t len ps =>
  have:evP G tm ps.toList=evP G tm' ps.toList:=by
   unfold evP
   refine ZR0 fun p hp=>?_
   rw [hx p.2 (by simp only [Op.operands,List.mem_map];exact ⟨p,hp,rfl⟩)]
  change Qh0 P G tm h t len ps=Qh0 P G tm' h t len ps
  unfold Qh0
  rw [this]
 | insert t m k v =>
  change yW0 P G tm h t m k v=yW0 P G tm' h t m k v
  unfold yW0
  rw [hx m (by simp [Op.operands]),hx k (by simp [Op.operands]),hx v (by simp [Op.operands])]
 | load t x=>change o1 _ _ _ _ _=o1 _ _ _ _ _;rw [zp0,zp0,hx x (by simp [Op.operands])]
 | store t x y =>
  change yn0 P G tm h t x y=yn0 P G tm' h t x y
  unfold yn0
  rw [hx x (by simp [Op.operands]),hx y (by simp [Op.operands])]
 | nilCheck x=>change o1 _ _ _ _ _=o1 _ _ _ _ _;rw [zp0,zp0,hx x (by simp [Op.operands])]
 | binOp op t x y b=>change o2 _ _ _ _ _ _=o2 _ _ _ _ _ _;rw [jq0,jq0,hx x (by simp [Op.operands]),hx y (by simp [Op.operands])]
 | unOp op t x=>change o1 _ _ _ _ _=o1 _ _ _ _ _;rw [zp0,zp0,hx x (by simp [Op.operands])]
 | convert s d x=>change o1 _ _ _ _ _=o1 _ _ _ _ _;rw [zp0,zp0,hx x (by simp [Op.operands])]
 | makeInterface t x=>change o1 _ _ _ _ _=o1 _ _ _ _ _;rw [zp0,zp0,hx x (by simp [Op.operands])]
 | makeFunc f a b =>
  change Qi0 G tm h f a b=Qi0 G tm' h f a b
  have h1:qc0 (ev G tm) a.toList=qc0 (ev G tm') a.toList:=ZR0 fun x hx'=>hx x (by simp [Op.operands] at hx' ⊢;exact .inl hx')
  have h2:qc0 (ev G tm) b.toList=qc0 (ev G tm') b.toList:=ZR0 fun x hx'=>hx x (by simp [Op.operands] at hx' ⊢;exact .inr hx')
  unfold Qi0
  rw [h1,h2]
 | makeMap t r=>rfl
 | makeSlice t l c =>
  change ZZ0 P G tm h t l c=ZZ0 P G tm' h t l c
  unfold ZZ0
  rw [hx l (by simp [Op.operands]),hx c (by simp [Op.operands])]
 | slice t x lo hi mx =>
  change yZ0 P G tm h t x lo hi mx=yZ0 P G tm' h t x lo hi mx
  have hO:∀ y:Option Operand,(∀ z,y=some z→z∈(Op.slice t x lo hi mx).operands.toList)→evO G tm y=evO G tm' y:=by
   intro y hy
   cases y with
   | none=>rfl
   | some z=>unfold evO;simp only;rw [hx z (hy z rfl)]
  unfold yZ0
  rw [hx x (by simp [Op.operands]),hO lo (fun z e=>by subst e;simp [Op.operands]),hO hi (fun z e=>by subst e;simp [Op.operands]),hO mx (fun z e=>by subst e;simp [Op.operands])]
 | fieldAddr t x f =>
  change Qg0 P G tm h t x f=Qg0 P G tm' h t x f
  unfold Qg0
  split
  ·rw [zp0,zp0,hx x (by simp [Op.operands])]
  ·rfl
 | field t x f =>
  change Qf0 P G tm h t x f=Qf0 P G tm' h t x f
  unfold Qf0
  split
  ·rw [zp0,zp0,hx x (by simp [Op.operands])]
  ·rfl
 | indexAddr t x i=>change o2 _ _ _ _ _ _=o2 _ _ _ _ _ _;rw [jq0,jq0,hx x (by simp [Op.operands]),hx i (by simp [Op.operands])]
 | index t x i=>change o2 _ _ _ _ _ _=o2 _ _ _ _ _ _;rw [jq0,jq0,hx x (by simp [Op.operands]),hx i (by simp [Op.operands])]
 | lookup t x i ok=>change o2 _ _ _ _ _ _=o2 _ _ _ _ _ _;rw [jq0,jq0,hx x (by simp [Op.operands]),hx i (by simp [Op.operands])]
 | mapUpdate t m k v =>
  change yW0 P G tm h t m k v=yW0 P G tm' h t m k v
  unfold yW0
  rw [hx m (by simp [Op.operands]),hx k (by simp [Op.operands]),hx v (by simp [Op.operands])]
 | range t x =>
  change Yb0 P G tm h t x=Yb0 P G tm' h t x
  unfold Yb0
  rw [hx x (by simp [Op.operands])]
 | next x s =>
  change jr0 G tm h x s=jr0 G tm' h x s
  unfold jr0
  rw [hx x (by simp [Op.operands])]
 | entry x =>
  change ZY0 G tm h x=ZY0 G tm' h x
  unfold ZY0
  rw [hx x (by simp [Op.operands])]
 | typeAssert x xt t ok=>change o1 _ _ _ _ _=o1 _ _ _ _ _;rw [zp0,zp0,hx x (by simp [Op.operands])]
 | extract x i=>change o1 _ _ _ _ _=o1 _ _ _ _ _;rw [zp0,zp0,hx x (by simp [Op.operands])]
 | call c =>
  change zw0 P G tm h c=zw0 P G tm' h c
  have h1:qc0 (ev G tm) c.args.toList=qc0 (ev G tm') c.args.toList:=ZR0 fun x hx'=>hx x (by simp [Op.operands,Call.operands] at hx' ⊢;exact .inr hx')
  unfold zw0
  rw [h1]
  cases hc:c.callee with
  | builtin b=>rfl
  | value f=>simp only;rw [hx f (by simp [Op.operands,Call.operands,hc])]
  | invoke r m=>rfl
 | defer c =>
  change yc0 G tm h c=yc0 G tm' h c
  have h1:qc0 (ev G tm) c.args.toList=qc0 (ev G tm') c.args.toList:=ZR0 fun x hx'=>hx x (by simp [Op.operands,Call.operands] at hx' ⊢;exact .inr hx')
  unfold yc0
  rw [h1]
  cases hc:c.callee with
  | builtin b=>rfl
  | value f=>simp only;rw [hx f (by simp [Op.operands,Call.operands,hc])]
  | invoke r m=>rfl
 | panic x =>
  change Ya0 G tm h x=Ya0 G tm' h x
  unfold Ya0
  rw [hx x (by simp [Op.operands])]
 | _=>rfl
theorem Yt1 {tm tm':T V} (h:Heap) {o:Oper} (ht:∀ t,t∈Yi0 o.op.operands.toList→tm.get undef t=tm'.get undef t):qn0 P E ih tm h o=qn0 P E ih tm' h o:=by
 unfold qn0;rw [Gm1 h ht]
theorem yf2 {all:List Oper} {fr fr':Fr} {o:Oper} (ht:∀ t,t∈Ga0 all o→fr.tm.get undef t=fr'.tm.get undef t):wanted all fr o=wanted all fr' o:=by
 unfold wanted
 unfold Ga0 at ht
 cases hg:o.guard with
 | none=>rfl
 | some p =>
  obtain ⟨j,want⟩:=p
  rw [hg] at ht
  simp only at ht
  change Yj0 (j,want) all fr.tm=Yj0 (j,want) all fr'.tm
  unfold Yj0
  simp only
  cases ho:List.at all j with
  | none=>rfl
  | some x =>
   rw [ho] at ht
   simp only
   cases hd:x.dst with
   | none=>rfl
   | some d=>simp only;rw [ht d (by simp [hd])]
def Same (h:Heap) (r:Rs):Prop:=r=.stuck∨∃ v,r=.val v h
theorem Same.opt (h:Heap) (o:Option V):Same h (qj0 h o):=by
 cases o with
 | none=>exact .inl rfl
 | some v=>exact .inr ⟨v,rfl⟩
theorem Same.stuck (h:Heap):Same h .stuck:=.inl rfl
theorem Same.val (h:Heap) (v:V):Same h (.val v h):=.inr ⟨v,rfl⟩
theorem Same.o1 (G:Nat→Option V) (tm:T V) (h:Heap) (x:Operand) (f:V→Option V):Same h (AM.o1 G tm h x f):=by
 rw [zp0];split
 ·exact .stuck h
 ·exact .opt h _
theorem Same.o2 (G:Nat→Option V) (tm:T V) (h:Heap) (x y:Operand) (f:V→V→Option V):Same h (AM.o2 G tm h x y f):=by
 rw [jq0];split
 ·exact .stuck h
 ·split
  ·exact .stuck h
  ·exact .opt h _
theorem Same.bif {h:Heap} {b:Bool} {r r':Rs} (h1:Same h r) (h2:Same h r'):Same h (bif b then r else r'):=by cases b <;> assumption
theorem Zn1 (P:Program) (t:TypeId) (h:Heap) (x:V):Same h (bCap P t h x):=by
 unfold bCap
 refine .bif (.stuck h) ?_
 split
 ·exact .val h _
 ·split
  ·exact .val h _
  ·split
   ·split
    ·exact .bif (.val h _) (.stuck h)
    ·exact .stuck h
   ·exact .stuck h
 ·exact .stuck h
theorem Zq1 (h:Heap) (x:V):Same h (Ys0 h x):=by
 unfold Ys0
 split
 ·exact .val h _
 ·split
  ·exact .bif (.val h _) (.stuck h)
  ·exact .stuck h
 ·exact .stuck h
theorem ZH1 (P:Program) {b:Builtin} (hb:b=.len∨b=.cap∨b=.max∨b=.min∨b=.unsafeSliceData) (ts:List TypeId) (h:Heap) (args:List V):Same h (AM.builtin P b ts h args):=by
 unfold AM.builtin
 split
 ·exact .stuck h
 ·split
  ·exact .stuck h
  ·rcases hb with rfl | rfl | rfl | rfl | rfl <;> simp only
   ·split
    ·split
     ·exact .val h _
     ·exact .stuck h
    ·exact .stuck h
   ·split
    ·exact Zn1 P _ h _
    ·exact .stuck h
   ·exact .opt h _
   ·exact .opt h _
   ·split
    ·exact Zq1 h _
    ·exact .stuck h
theorem Kh1 (P:Program) (G:Nat→Option V) (tm:T V) (h:Heap) (t:TypeId) (len:Nat) (ps:Array (Nat×Operand)):Same h (Qh0 P G tm h t len ps):=by
 unfold Qh0
 split
 ·exact .stuck h
 ·split
  ·exact .stuck h
  ·split
   ·exact .stuck h
   ·refine .bif (.stuck h) ?_
    split
    ·exact .bif (.val h _) (.stuck h)
    ·exact .stuck h
theorem jQ1 {E:Env} {o:Oper} (hp:zR0 E o.op=true) (P:Program) (G:Nat→Option V) (tm:T V):(∀ h,qt0 P G tm h o=.stuck)∨∃ f args,E.shared f=false∧∀ h,qt0 P G tm h o=.call f args h:=by
 obtain ⟨dst,op,ty,pos,after,guard⟩:=o
 cases op with
 | call c =>
  obtain ⟨callee,args,ats⟩:=c
  unfold zR0 at hp
  simp only at hp
  split at hp
  ·rename_i f
   have hs:E.shared f=false:=by simpa using hp
   have e:∀ h,qt0 P G tm h { dst:=dst,op:=.call { callee:=.value (.func f),args:=args,argTypes:=ats },type:=ty,pos:=pos,after:=after,guard:=guard }=zw0 P G tm h { callee:=.value (.func f),args:=args,argTypes:=ats }:=fun h=>rfl
   unfold zw0 at e
   simp only at e
   cases ha:qc0 (ev G tm) args.toList with
   | none=>left;intro h;rw [e h,ha]
   | some as =>
    right
    refine ⟨f,List.app (List.app [] as) [],hs,fun h=>?_⟩
    rw [e h,ha]
    rfl
  ·cases hp
 | _=>cases hp
theorem qr2 {E:Env} {o:Oper} (hr:yQ0 E o.op=true) (hp:¬ zR0 E o.op=true) (P:Program) (G:Nat→Option V) (tm:T V) (h:Heap):Same h (qt0 P G tm h o):=by
 ·obtain ⟨dst,op,ty,pos,after,guard⟩:=o
  simp only at hr hp
  cases op with
  | move x=>exact .opt h _
  | assign x=>exact .opt h _
  | pick c a b =>
   change Same h (yY0 G tm h c a b)
   unfold yY0
   split
   ·exact .opt h _
   ·exact .stuck h
  | build t ps =>
   change Same h (yV0 P G tm h t ps)
   unfold yV0
   split
   ·exact .opt h _
   ·exact .stuck h
  | buildSlice t len ps=>exact Kh1 P G tm h t len ps
  | load t x=>exact .o1 ..
  | nilCheck x=>exact .o1 ..
  | binOp op t x y b=>exact .o2 ..
  | unOp op t x=>exact .o1 ..
  | convert s d x=>exact .o1 ..
  | makeInterface t x=>exact .o1 ..
  | makeFunc f a b =>
   change Same h (Qi0 G tm h f a b)
   unfold Qi0
   split
   ·exact .stuck h
   ·split
    ·split
     ·exact .val h _
     ·exact .stuck h
    ·exact .stuck h
  | slice t x lo hi mx =>
   change Same h (yZ0 P G tm h t x lo hi mx)
   unfold yZ0
   split
   ·exact .stuck h
   ·split
    ·exact .stuck h
    ·split
     ·exact .stuck h
     ·split
      ·exact .stuck h
      ·exact .opt h _
  | fieldAddr t x f =>
   change Same h (Qg0 P G tm h t x f)
   unfold Qg0
   split
   ·exact .bif (.stuck h) (.o1 ..)
   ·exact .stuck h
  | field t x f =>
   change Same h (Qf0 P G tm h t x f)
   unfold Qf0
   split
   ·exact .o1 ..
   ·exact .stuck h
  | indexAddr t x i=>exact .o2 ..
  | index t x i=>exact .o2 ..
  | lookup t x i ok=>exact .o2 ..
  | typeAssert x xt t ok=>exact .o1 ..
  | extract x i=>exact .o1 ..
  | call c =>
   obtain ⟨callee,args,ats⟩:=c
   change Same h (zw0 P G tm h _)
   have key:∀ b:Builtin,(b=.len∨b=.cap∨b=.max∨b=.min∨b=.unsafeSliceData)→Same h (zw0 P G tm h { callee:=.builtin b,args:=args,argTypes:=ats }):=by
    intro b hb
    unfold zw0
    simp only
    split
    ·exact .stuck h
    ·rcases hb with rfl | rfl | rfl | rfl | rfl <;> exact ZH1 P (by simp) _ h _
   simp only [yQ0] at hr
   split at hr
   ·exact key _ (by simp)
   ·exact key _ (by simp)
   ·exact key _ (by simp)
   ·exact key _ (by simp)
   ·exact key _ (by simp)
   ·exact absurd hr hp
   ·cases hr
  | _=>cases hr
theorem zb1 {h1 h2:Heap} {f:FuncId} {args:List V} (v:V) (h':Heap) (hr:yj0 E ih f args h1=.ret v h'):h'=h1∧yj0 E ih f args h2=.ret v h2:=by
 unfold yj0 at hr ⊢
 cases hg:qA0 (ground 3) args with
 | false=>rw [hg] at hr;cases hr
 | true =>
  rw [hg] at hr
  simp only [cond_true] at hr ⊢
  cases hu:E.prim f args with
  | some u =>
   rw [hu] at hr
   cases hr;exact ⟨rfl,rfl⟩
  | none =>
   rw [hu] at hr
   simp only at hr ⊢
   unfold QI0 at hr ⊢
   cases he:ih (.call f args Heap.empty) with
   | ret u hc =>
    rw [he] at hr
    simp only at hr ⊢
    cases hgv:Ye0 hc u with
    | none=>rw [hgv] at hr;cases hr
    | some gv=>rw [hgv] at hr;cases hr;exact ⟨rfl,rfl⟩
   | panic u hc =>
    rw [he] at hr
    simp only at hr
    split at hr <;> cases hr
   | none _ _=>rw [he] at hr;cases hr
   | code _ _ _=>rw [he] at hr;cases hr
   | dret _ _=>rw [he] at hr;cases hr
theorem KE0 {o:Oper} (hr:yQ0 E o.op=true) {tm:T V} {h h':Heap} {v:V} (hd:qn0 P E ih tm h o=.val v h'):h'=h:=by
 by_cases hp:zR0 E o.op=true
 ·unfold qn0 at hd
  rcases jQ1 hp P E.glob tm with q | ⟨f',a',hsh,q⟩
  ·rw [q] at hd;cases hd
  ·rw [q] at hd
   simp only at hd
   have:zV0 E ih true f' a' h=yj0 E ih f' a' h:=by unfold zV0;rw [hsh]
   rw [this] at hd
   cases hc:yj0 E ih f' a' h with
   | ret y h2=>rw [hc] at hd;cases hd;exact (zb1 (h2:=h) _ _ hc).1
   | panic y h2=>rw [hc] at hd;cases hd
   | _=>rw [hc] at hd;cases hd
 ·unfold qn0 at hd
  rcases qr2 hr hp P E.glob tm h with q | ⟨v',q⟩
  ·rw [q] at hd;cases hd
  ·rw [q] at hd;cases hd;rfl
theorem Yu1 {o:Oper} (hp:zR0 E o.op=true) {tm:T V} {h h':Heap} {v:V} (hd:qn0 P E ih tm h o=.val v h') (h2:Heap):qn0 P E ih tm h2 o=.val v h2:=by
 unfold qn0 at hd ⊢
 rcases jQ1 hp P E.glob tm with q | ⟨f',a',hsh,q⟩
 ·rw [q] at hd;cases hd
 ·rw [q] at hd ⊢
  simp only at hd ⊢
  have e1:∀ h,zV0 E ih true f' a' h=yj0 E ih f' a' h:=fun h=>by unfold zV0;rw [hsh]
  rw [e1] at hd ⊢
  cases hc:yj0 E ih f' a' h with
  | ret y h3 =>
   rw [hc] at hd;cases hd
   rw [(zb1 (h2:=h2) _ _ hc).2];rfl
  | panic y h3=>rw [hc] at hd;cases hd
  | _=>rw [hc] at hd;cases hd
theorem Jq0 (m n:Nat):tb m n=m.testBit n:=by
 unfold tb
 rw [Bool.eq_iff_iff,Nat.beq_eq,Nat.testBit]
 show (m >>> n) &&& 1=1↔_
 rw [Nat.and_comm]
 have h:1 &&& m >>> n=0∨1 &&& m >>> n=1:=by
  rw [Nat.and_comm,Nat.and_one_is_mod];omega
 rcases h with h | h <;> simp [h]
theorem tb_lor (a b n:Nat):tb (Nat.lor a b) n=(tb a n||tb b n):=by
 rw [Jq0,Jq0,Jq0];exact Nat.testBit_or a b n
theorem tb_pow (k n:Nat):tb (Nat.pow 2 k) n=decide (k=n):=by
 rw [Jq0];exact Nat.testBit_two_pow
theorem QH1 (n:Nat):tb 0 n=false:=by rw [Jq0];exact Nat.zero_testBit n
theorem qO1 (e:Edge):ys0 e=Region.binds .any e:=by
 unfold ys0 Region.binds
 cases e.ground <;> rfl
theorem Zv1 (tbl:List Nat) (es:List Edge) (j:Nat) (h:tb (jh0 tbl es) j=true):∃ e,e∈es∧ys0 e=true∧(e.on=j∨tb (getN tbl e.on) j=true):=by
 induction es with
 | nil=>change tb 0 j=true at h;rw [QH1] at h;cases h
 | cons e es ih =>
  change tb (bif ys0 e then Nat.lor (Nat.lor (Nat.pow 2 e.on) (getN tbl e.on)) (jh0 tbl es) else jh0 tbl es) j=true at h
  cases hb:ys0 e with
  | false =>
   rw [hb] at h
   obtain ⟨e',h1,h2⟩:=ih h
   exact ⟨e',by simp [h1],h2⟩
  | true =>
   rw [hb] at h
   simp only [cond_true,tb_lor,tb_pow,Bool.or_eq_true,decide_eq_true_eq] at h
   rcases h with (h | h) | h
   ·exact ⟨e,by simp,hb,.inl h⟩
   ·exact ⟨e,by simp,hb,.inr h⟩
   ·obtain ⟨e',h1,h2⟩:=ih h
    exact ⟨e',by simp [h1],h2⟩
theorem KM1 (E:Env) (all:List Oper) (o:Oper) (l:List Oper) (i:Nat) (tbl:List Nat) :
 yT0 E all (o::l) i tbl=⟨o,i,!(yQ0 E o.op),jh0 tbl o.after.toList,looks all o⟩::yT0 E all l (i+1) (List.app tbl [jh0 tbl o.after.toList]):=rfl
theorem KN1 (E:Env) (all l:List Oper):∀ (i:Nat) (tbl:List Nat),(yT0 E all l i tbl).length=l.length∧∀ (k:Nat) d,(yT0 E all l i tbl)[k]?=some d →
 l[k]?=some d.o∧d.i=i+k∧d.w=!(yQ0 E d.o.op)∧d.lk=looks all d.o∧d.b=jh0 (tbl++((yT0 E all l i tbl).map (·.b)).take k) d.o.after.toList:=by
 induction l with
 | nil=>intro i tbl;exact ⟨rfl,fun k d h=>by cases k <;> cases h⟩
 | cons o l ih =>
  intro i tbl
  rw [KM1]
  obtain ⟨h1,h2⟩:=ih (i+1) (List.app tbl [jh0 tbl o.after.toList])
  refine ⟨by simp [h1],fun k d hd=>?_⟩
  cases k with
  | zero=>cases hd;exact ⟨rfl,rfl,rfl,rfl,by simp⟩
  | succ k =>
   obtain ⟨a,b,c,e,f⟩:=h2 k d hd
   refine ⟨a,by omega,c,e,?_⟩
   rw [f,List.app_eq]
   simp
theorem Xk1 (l:List Nat) (i:Nat):getN l i=l.getD i 0:=by
 unfold getN
 rw [List.at_eq]
 cases h:l[i]? <;> simp [List.getD_eq_getElem?_getD,h]
structure Static (E:Env) (ops:Array Oper) (l:List DOp):Prop where
 len:l.length=ops.size
 at_:∀ (i:Nat) d,l[i]?=some d→ops[i]?=some d.o∧d.i=i∧d.w=!(yQ0 E d.o.op)∧d.lk=looks ops.toList d.o
 edge:∀ (i:Nat) d e,l[i]?=some d→e∈d.o.after.toList→ys0 e=true→e.on<i
 bits:∀ (i:Nat) d j,l[i]?=some d→tb d.b j=true→∃ e,e∈d.o.after.toList∧ys0 e=true∧(e.on=j∨∃ d',l[e.on]?=some d'∧tb d'.b j=true)
 pair:∀ (i j:Nat) d d',i<j→l[i]?=some d→l[j]?=some d'→tb d'.b i=true∨(¬ (d.w=true∧d'.w=true)∧(∀ t,d.o.dst=some t→¬ t∈d'.lk)∧(∀ t,d'.o.dst=some t→¬ t∈d.lk))
theorem jn1 {o:Oper} {l:List Tmp} (h:Xs0 o l=true) (t:Tmp) (ht:o.dst=some t):¬ t∈l:=by
 unfold Xs0 at h
 rw [ht] at h
 simp only [Bool.not_eq_true'] at h
 intro hm
 rw [(YR0 t l).2 hm] at h;cases h
theorem GA1 (l:List DOp) (h:GM0 l=true):∀ (i j:Nat) d d',i<j→l[i]?=some d→l[j]?=some d'→YX0 d d'=true:=by
 induction l with
 | nil=>intro i j d d' _ hd;cases i <;> cases hd
 | cons x l ih =>
  change (bif qV0 (YX0 x) l then GM0 l else false)=true at h
  cases hx:qV0 (YX0 x) l with
  | false=>rw [hx] at h;cases h
  | true =>
   rw [hx] at h
   intro i j d d' hij hd hd'
   cases j with
   | zero=>omega
   | succ j =>
    cases i with
    | zero=>cases hd;exact (yK0 _ _).1 hx d' (List.mem_of_getElem? hd')
    | succ i=>exact ih h i j d d' (by omega) hd hd'
theorem Yw1 {E:Env} {ops:Array Oper} {l:List DOp} (h:QF0 E ops.toList=some l):Static E ops l:=by
 unfold QF0 at h
 obtain ⟨hb,h⟩:=qf0 h rfl
 cases h
 rw [Bool.and_eq_true] at hb
 obtain ⟨h1,h2⟩:=hb
 obtain ⟨hl,hg⟩:=KN1 E ops.toList ops.toList 0 []
 have hedge:∀ (i:Nat) d e,(yT0 E ops.toList ops.toList 0 [])[i]?=some d→e∈d.o.after.toList→ys0 e=true→e.on<i:=by
  intro i d e hd he hbe
  have:=(yK0 _ _).1 h1 d (List.mem_of_getElem? hd)
  have:=(yK0 _ _).1 this e he
  rw [hbe] at this
  simp only [cond_true,Nat.blt_eq] at this
  obtain ⟨_,q,_⟩:=hg i d hd
  omega
 refine ⟨by rw [hl];simp,fun i d hd=>?_,hedge,fun i d j hd hj=>?_,fun i j d d' hij hd hd'=>?_⟩
 ·obtain ⟨a,b,c,e,_⟩:=hg i d hd
  exact ⟨by simpa using a,by omega,c,e⟩
 ·obtain ⟨_,_,_,_,f⟩:=hg i d hd
  rw [f] at hj
  obtain ⟨e,he,hbe,hor⟩:=Zv1 _ _ _ hj
  refine ⟨e,he,hbe,hor.imp id fun q=>?_⟩
  have hlt:=hedge i d e hd he hbe
  have hi:=qd0 hd
  obtain ⟨d',hd'⟩:=qr0 (yT0 E ops.toList ops.toList 0 []) e.on (by omega)
  refine ⟨d',hd',?_⟩
  rw [Xk1,List.getD_eq_getElem?_getD,List.nil_append,List.getElem?_take,if_pos hlt,List.getElem?_map,hd'] at q
  exact q
 ·have:=GA1 _ h2 i j d d' hij hd hd'
  unfold YX0 at this
  rw [Bool.or_eq_true] at this
  obtain ⟨_,q,_⟩:=hg i d hd
  have qi:d.i=i:=by omega
  rw [qi] at this
  refine this.imp id fun r=>?_
  simp only [Bool.and_eq_true,Bool.not_eq_true'] at r
  obtain ⟨⟨r1,r2⟩,r3⟩:=r
  exact ⟨fun ⟨a,b⟩=>(by rw [a,b] at r1;cases r1),fun t ht=>jn1 r2 t ht,fun t ht=>jn1 r3 t ht⟩
inductive Kd where
 | val (v:V)
 | pan (v:V) (h:Heap)
 | no
inductive StepOk (P:Program) (E:Env) (ih:Task→Res) (all:List Oper) (d:DOp):Fr→Heap→Option Nat→Kd→Fr→Heap→Option Nat→Prop
 | no {fr:Fr} {h:Heap} {p:Nat} (hb:tb d.b p=true):StepOk P E ih all d fr h (some p) .no fr h (some p)
 | skip {fr:Fr} {h:Heap} {q:Option Nat} {fr':Fr} (hn:∀ p,q=some p→tb d.b p=false) (hw:wanted all fr d.o=some false) (hput:fr.put d.o.dst undef=some fr') (hx:d.w=true→q=none) :
  StepOk P E ih all d fr h q (.val undef) fr' h q
 | val {fr:Fr} {h:Heap} {q:Option Nat} {fr':Fr} {v:V} {h':Heap} (hn:∀ p,q=some p→tb d.b p=false) (hw:wanted all fr d.o=some true) (hd:qn0 P E ih fr.tm h d.o=.val v h') (hput:fr.put d.o.dst v=some fr') (hx:d.w=true→q=none) (hr:d.w=false→h'=h) :
  StepOk P E ih all d fr h q (.val v) fr' h' q
 | pan {fr:Fr} {h:Heap} {v:V} {hp:Heap} (hw:wanted all fr d.o=some true) (hdw:d.w=true) (hd:qn0 P E ih fr.tm h d.o=.panic v hp):StepOk P E ih all d fr h none (.pan v hp) fr h (some d.i)
def sh {α:Type} (a:α) (f:Nat→α):Nat→α
 | 0=>a
 | n+1=>f n
structure Log (P:Program) (E:Env) (ih:Task→Res) (all:List Oper) (l:List DOp) (fr:Fr) (h:Heap) (pb:Nat) (hs:List Hp) (rs:List Rc) (pan:Option Pn) (fr':Fr) (h':Heap) (hps:List Hp) (rcs:List Rc) (pan':Option Pn)
 (F:Nat→Fr) (H:Nat→Heap) (Q:Nat→Option Nat) (K:Nat→Kd):Prop where
 f0:F 0=fr
 h0:H 0=h
 q0:Q 0=pan.map (·.i)
 step:∀ (i:Nat) d,l[i]?=some d→StepOk P E ih all d (F i) (H i) (Q i) (K i) (F (i+1)) (H (i+1)) (Q (i+1))
 fn:F l.length=fr'
 hn:H l.length=h'
 qn:Q l.length=pan'.map (·.i)
 hsub:∀ x,x∈hs→x∈hps
 rsub:∀ x,x∈rs→x∈rcs
 reads:∀ (i:Nat) (d:DOp) (v:V),l[i]?=some d→K i=.val v→d.w=false→zR0 E d.o.op=false→wanted all (F i) d.o=some true→⟨d.o,d.i,d.b,(F i).tm,v⟩∈rcs
 heaps:∀ (i:Nat) d,l[i]?=some d→d.w=true→Q i=none→∃ e,e∈hps∧e.h=H i∧e.nx=some d.i∧(e.pb=pb∨∃ (j:Nat) (d':DOp),j<i∧l[j]?=some d'∧d'.w=true∧e.pb=d'.b)
 last:pan'=none→∃ e,e∈hps∧e.h=h'∧e.nx=none∧(e.pb=pb∨∃ (j:Nat) (d':DOp),l[j]?=some d'∧d'.w=true∧e.pb=d'.b)
 keep:∀ p,pan=some p→pan'=some p
 made:∀ p,pan=none→pan'=some p→∃ (i:Nat) (d:DOp),l[i]?=some d∧d.i=p.i∧K i=.pan p.v p.h∧Q i=none
theorem JK0 {o:Oper} {v:V} {fr:Fr} {k:Fr→DR} {fr':Fr} {h':Heap} {hps:List Hp} {rcs:List Rc} {pan':Option Pn} (h:jO0 o v fr k=.done fr' h' hps rcs pan'):∃ fr1,fr.put o.dst v=some fr1∧k fr1=.done fr' h' hps rcs pan':=by
 unfold jO0 at h
 cases hp:fr.put o.dst v with
 | none=>rw [hp] at h;cases h
 | some fr1=>rw [hp] at h;exact ⟨fr1,rfl,h⟩
theorem Ym1 (P:Program) (E:Env) (ih:Task→Res) (all:List Oper) (d:DOp) (l:List DOp):yJ0 P E ih all (d::l)=YB0 P E ih all d (yJ0 P E ih all l):=rfl
theorem GB1 {pan:Option Pn} {b:Nat} (h:YY0 pan b=false):∀ p,pan.map (·.i)=some p→tb b p=false:=by
 intro p hp
 cases pan with
 | none=>cases hp
 | some q=>cases hp;exact h
theorem GF0 {pan:Option Pn} (h:zn0 pan=true):pan=none:=by
 cases pan with
 | none=>rfl
 | some _=>cases h
theorem Yn1 (P:Program) (E:Env) (ih:Task→Res) (all:List Oper) (l:List DOp) (hwr:∀ d,d∈l→d.w=!(yQ0 E d.o.op)):∀ (fr:Fr) (h:Heap) (pb:Nat) (hs:List Hp) (rs:List Rc) (pan:Option Pn) (fr':Fr) (h':Heap) (hps:List Hp) (rcs:List Rc) (pan':Option Pn),
 yJ0 P E ih all l fr h pb hs rs pan=.done fr' h' hps rcs pan'→∃ F H Q K,Log P E ih all l fr h pb hs rs pan fr' h' hps rcs pan' F H Q K:=by
 induction l with
 | nil =>
  intro fr h pb hs rs pan fr' h' hps rcs pan' hr
  cases hr
  refine ⟨fun _=>fr,fun _=>h,fun _=>pan.map (·.i),fun _=>.no,rfl,rfl,rfl,fun i d hd=>(by cases i <;> cases hd),rfl,rfl,rfl,fun x hx=>?_,fun x hx=>hx,fun i d v hd=>(by cases i <;> cases hd),fun i d hd=>(by cases i <;> cases hd),fun hp=>?_,fun p hp=>hp,fun p hp hp'=>(by rw [hp] at hp';cases hp')⟩
  ·cases zn0 pan with
   | true=>exact List.mem_cons_of_mem _ hx
   | false=>exact hx
  ·subst hp
   exact ⟨⟨pb,h,none⟩,by simp [zn0],rfl,rfl,.inl rfl⟩
 | cons d l IH =>
  have IH:=IH fun x hx=>hwr x (by simp [hx])
  have hdw:=hwr d (by simp)
  intro fr h pb hs rs pan fr' h' hps rcs pan' hr
  rw [Ym1] at hr
  have put:∀ (k:Kd) (fr1:Fr) (h1:Heap) (pb1:Nat) (hs1:List Hp) (rs1:List Rc) (pan1:Option Pn),yJ0 P E ih all l fr1 h1 pb1 hs1 rs1 pan1=.done fr' h' hps rcs pan'→StepOk P E ih all d fr h (pan.map (·.i)) k fr1 h1 (pan1.map (·.i)) →
   (∀ x,x∈hs→x∈hs1)→(∀ x,x∈rs→x∈rs1)→(∀ v,k=.val v→d.w=false→zR0 E d.o.op=false→wanted all fr d.o=some true→⟨d.o,d.i,d.b,fr.tm,v⟩∈rs1) →
   (d.w=true→pan=none→⟨pb,h,some d.i⟩∈hs1)→(pb1=pb∨d.w=true∧pb1=d.b)→(∀ p,pan=some p→pan1=some p)→(∀ p,pan=none→pan1=some p→d.i=p.i∧k=.pan p.v p.h) →
   ∃ F H Q K,Log P E ih all (d::l) fr h pb hs rs pan fr' h' hps rcs pan' F H Q K:=by
   intro k fr1 h1 pb1 hs1 rs1 pan1 hrun hstep hh hrr hrd hhp hpb hkeep hmade
   obtain ⟨F,H,Q,K,L⟩:=IH fr1 h1 pb1 hs1 rs1 pan1 fr' h' hps rcs pan' hrun
   refine ⟨sh fr F,sh h H,sh (pan.map (·.i)) Q,sh k K,rfl,rfl,rfl,fun i x hx=>?_,L.fn,L.hn,L.qn,fun x hx=>L.hsub x (hh x hx),fun x hx=>L.rsub x (hrr x hx),fun i x v hx hk hw hp hwt=>?_,fun i x hx hw hq=>?_,fun hp=>?_,fun p hp=>L.keep p (hkeep p hp),fun p hp hp'=>?_⟩
   ·cases i with
    | zero =>
     cases hx
     change StepOk P E ih all d fr h (pan.map (·.i)) k (F 0) (H 0) (Q 0)
     rw [L.f0,L.h0,L.q0];exact hstep
    | succ i=>exact L.step i x hx
   ·cases i with
    | zero=>cases hx;exact L.rsub _ (hrd v hk hw hp hwt)
    | succ i=>exact L.reads i x v hx hk hw hp hwt
   ·cases i with
    | zero =>
     cases hx
     have hq:pan=none:=by
      change pan.map (·.i)=none at hq
      simpa using hq
     exact ⟨_,L.hsub _ (hhp hw hq),rfl,rfl,.inl rfl⟩
    | succ i =>
     obtain ⟨e,h1,h2,h3,h4⟩:=L.heaps i x hx hw hq
     refine ⟨e,h1,h2,h3,?_⟩
     rcases h4 with h4 | ⟨j,d',hj,hd',hw',he⟩
     ·rcases hpb with hpb | ⟨hw',hpb⟩
      ·exact .inl (h4.trans hpb)
      ·exact .inr ⟨0,d,by omega,rfl,hw',h4.trans hpb⟩
     ·exact .inr ⟨j+1,d',by omega,hd',hw',he⟩
   ·obtain ⟨e,h1,h2,h3,h4⟩:=L.last hp
    refine ⟨e,h1,h2,h3,?_⟩
    rcases h4 with h4 | ⟨j,d',hd',hw',he⟩
    ·rcases hpb with hpb | ⟨hw',hpb⟩
     ·exact .inl (h4.trans hpb)
     ·exact .inr ⟨0,d,rfl,hw',h4.trans hpb⟩
    ·exact .inr ⟨j+1,d',hd',hw',he⟩
   ·cases hp1:pan1 with
    | none =>
     obtain ⟨i,x,h1,h2,h3,h4⟩:=L.made p hp1 hp'
     exact ⟨i+1,x,h1,h2,h3,h4⟩
    | some p1 =>
     have:=L.keep p1 hp1
     rw [hp'] at this;cases this
     obtain ⟨h1,h2⟩:=hmade p hp hp1
     exact ⟨0,d,rfl,h1,h2,by rw [hp];rfl⟩
  unfold YB0 at hr
  cases hpa:YY0 pan d.b with
  | true =>
   rw [hpa] at hr
   obtain ⟨p,rfl⟩:∃ p,pan=some p:=by
    cases pan with
    | none=>cases hpa
    | some p=>exact ⟨p,rfl⟩
   exact put .no fr h pb hs rs (some p) hr (.no hpa) (fun _ h=>h) (fun _ h=>h) (fun v e=>by cases e) (fun _ e=>by cases e) (.inl rfl) (fun _ e=>e) (fun _ e=>by cases e)
  | false =>
   rw [hpa] at hr
   simp only [cond_false] at hr
   have hn:=GB1 hpa
   cases hwt:wanted all fr d.o with
   | none=>rw [hwt] at hr;cases hr
   | some t =>
    rw [hwt] at hr
    cases t with
    | false =>
     simp only [cond_false] at hr
     cases hw:d.w with
     | true =>
      rw [hw] at hr
      simp only [cond_true] at hr
      cases hnp:zn0 pan with
      | false=>rw [hnp] at hr;cases hr
      | true =>
       rw [hnp] at hr
       have hpn:=GF0 hnp
       subst hpn
       obtain ⟨fr1,hput,hr⟩:=JK0 hr
       exact put (.val undef) fr1 h d.b _ rs none hr (.skip hn hwt hput (fun _=>rfl)) (fun _ h=>List.mem_cons_of_mem _ h) (fun _ h=>h) (fun v _ e=>by rw [hw] at e;cases e) (fun _ _=>by simp) (.inr ⟨hw,rfl⟩) (fun _ e=>e) (fun _ _ e=>by cases e)
     | false =>
      rw [hw] at hr
      simp only [cond_false] at hr
      obtain ⟨fr1,hput,hr⟩:=JK0 hr
      exact put (.val undef) fr1 h pb hs rs pan hr (.skip hn hwt hput (fun e=>by rw [hw] at e;cases e)) (fun _ h=>h) (fun _ h=>h) (fun v _ _ _ e=>by rw [hwt] at e;cases e) (fun e=>by rw [hw] at e;cases e) (.inl rfl) (fun _ e=>e) (fun p e e'=>by rw [e] at e';cases e')
    | true =>
     simp only [cond_true] at hr
     unfold dVal at hr
     cases hop:qn0 P E ih fr.tm h d.o with
     | stuck=>rw [hop] at hr;cases hr
     | panic v hp =>
      rw [hop] at hr
      simp only at hr
      cases hb:(d.w&&zn0 pan) with
      | false=>rw [hb] at hr;cases hr
      | true =>
       rw [hb] at hr
       simp only [cond_true] at hr
       rw [Bool.and_eq_true] at hb
       have hpn:=GF0 hb.2
       subst hpn
       exact put (.pan v hp) fr h pb _ rs _ hr (.pan hwt hb.1 hop) (fun _ h=>List.mem_cons_of_mem _ h) (fun _ h=>h) (fun v e=>by cases e) (fun _ _=>by simp) (.inl rfl) (fun _ e=>by cases e) (fun p _ e=>by cases e;exact ⟨rfl,rfl⟩)
     | val v h1 =>
      rw [hop] at hr
      simp only at hr
      cases hw:d.w with
      | true =>
       rw [hw] at hr
       simp only [cond_true] at hr
       cases hnp:zn0 pan with
       | false=>rw [hnp] at hr;cases hr
       | true =>
        rw [hnp] at hr
        have hpn:=GF0 hnp
        subst hpn
        obtain ⟨fr1,hput,hr⟩:=JK0 hr
        exact put (.val v) fr1 h1 d.b _ rs none hr (.val hn hwt hop hput (fun _=>rfl) (fun e=>by rw [hw] at e;cases e)) (fun _ h=>List.mem_cons_of_mem _ h) (fun _ h=>h) (fun v _ e=>by rw [hw] at e;cases e) (fun _ _=>by simp) (.inr ⟨hw,rfl⟩) (fun _ e=>e) (fun _ _ e=>by cases e)
      | false =>
       rw [hw] at hr
       simp only [cond_false] at hr
       have hrd:yQ0 E d.o.op=true:=by rw [hw] at hdw;simpa using hdw.symm
       have hh:=KE0 hrd hop
       subst hh
       obtain ⟨fr1,hput,hr⟩:=JK0 hr
       refine put (.val v) fr1 h1 pb hs _ pan hr (.val hn hwt hop hput (fun e=>by rw [hw] at e;cases e) (fun _=>rfl)) (fun _ h=>h) (fun x hx=>?_) (fun u e _ hp _=>?_) (fun e=>by rw [hw] at e;cases e) (.inl rfl) (fun _ e=>e) (fun p e e'=>by rw [e] at e';cases e')
       ·cases zR0 E d.o.op with
        | true=>exact hx
        | false=>exact List.mem_cons_of_mem _ hx
       ·cases e
        rw [hp]
        simp
variable {P:Program} {E:Env} {ih:Task→Res} {B:Ns} {w0:World}
theorem Jb0 {fr fr':Fr} {d:Option Tmp} {v:V} (h:fr.put d v=some fr'):fr'={ fr with tm:=fr'.tm }∧(∀ t,fr'.tm.get undef t=if d=some t then v else fr.tm.get undef t)∧(∀ t,d=some t→t<fr.n):=by
 cases d with
 | none=>cases h;exact ⟨rfl,fun t=>by simp,fun t e=>by cases e⟩
 | some d =>
  obtain ⟨fn,n,tm,marks,defers,round,dk,did⟩:=fr
  change (Bool.rec Option.none (some (⟨fn,n,tm.set undef v d,marks,defers,round,dk,did⟩:Fr)) (Nat.blt d n):Option Fr)=some fr' at h
  cases hb:Nat.blt d n with
  | false=>rw [hb] at h;cases h
  | true =>
   rw [hb] at h;cases h
   rw [Nat.blt_eq] at hb
   refine ⟨rfl,fun t=>?_,fun t e=>by cases e;exact hb⟩
   simp only [T.get_set,Option.some.injEq]
theorem jR1 {fr:Fr} {d:Option Tmp} {v:V} (h:∀ t,d=some t→t<fr.n):∃ fr',fr.put d v=some fr':=by
 cases d with
 | none=>exact ⟨fr,rfl⟩
 | some d =>
  obtain ⟨fn,n,tm,marks,defers,round,dk,did⟩:=fr
  refine ⟨⟨fn,n,tm.set undef v d,marks,defers,round,dk,did⟩,?_⟩
  change (Bool.rec Option.none (some (⟨fn,n,tm.set undef v d,marks,defers,round,dk,did⟩:Fr)) (Nat.blt d n):Option Fr)=_
  have:Nat.blt d n=true:=by rw [Nat.blt_eq];exact h d rfl
  rw [this]
def wr (Wt:Nat→Option (Nat×V)) (D:Nat→Bool) (f:Nat→V) (t:Nat):Nat→V
 | 0=>f t
 | n+1=>if D n=true then (match Wt n with
  | some (d,v)=>if d=t then v else wr Wt D f t n
  | none=>wr Wt D f t n) else wr Wt D f t n
theorem Qu0 {Wt:Nat→Option (Nat×V)} {D D':Nat→Bool} {f:Nat→V} {t n:Nat} (h:∀ j v,j<n→Wt j=some (t,v)→D j=D' j):wr Wt D f t n=wr Wt D' f t n:=by
 induction n with
 | zero=>rfl
 | succ n IH =>
  have ih:=IH fun j v hj=>h j v (by omega)
  simp only [wr]
  rw [ih]
  cases hw:Wt n with
  | none=>simp
  | some p =>
   obtain ⟨d,v⟩:=p
   simp only
   by_cases e:d=t
   ·subst e
    rw [h n v (by omega) hw]
   ·simp [e]
theorem wr_add {Wt:Nat→Option (Nat×V)} {D D':Nat→Bool} {f:Nat→V} {t n i d:Nat} {v:V} (hi:i<n) (hw:Wt i=some (d,v)) (hD:∀ j,D' j=if j=i then true else D j) (hl:∀ j u,i<j→j<n→Wt j=some (d,u)→D j=false) :
 wr Wt D' f t n=if d=t then v else wr Wt D f t n:=by
 by_cases e:d=t
 ·subst e
  rw [if_pos rfl]
  induction n with
  | zero=>omega
  | succ n IH =>
   simp only [wr]
   by_cases hin:i=n
   ·subst hin
    have hDi:D' i=true:=by rw [hD,if_pos rfl]
    rw [if_pos hDi,hw]
    simp
   ·have hl':=IH (by omega) fun j u hj hjn=>hl j u hj (by omega)
    have hDn:D' n=D n:=by rw [hD,if_neg (fun e=>hin e.symm)]
    rw [hl',hDn]
    cases hwn:Wt n with
    | none=>simp
    | some p =>
     obtain ⟨d',u⟩:=p
     by_cases e:d'=d
     ·subst e
      rw [hl n u (by omega) (by omega) hwn]
      simp
     ·simp [e]
 ·rw [if_neg e]
  refine Qu0 fun j u hj hwj=>?_
  rw [hD]
  split
  ·rename_i hji
   subst hji
   rw [hw] at hwj
   cases hwj
   exact absurd rfl e
  ·rfl
theorem yi2 {Wt:Nat→Option (Nat×V)} {f:Nat→V} {t i n:Nat} (hi:i≤n):wr Wt (fun j=>decide (j<i)) f t n=wr Wt (fun _=>true) f t i:=by
 induction n with
 | zero =>
  have:i=0:=by omega
  subst this;rfl
 | succ n IH =>
  by_cases e:i=n+1
  ·subst e
   exact Qu0 fun j v hj _=>by simp [hj]
  ·simp only [wr]
   rw [if_neg (by simp;omega)]
   exact IH (by omega)
section
variable {all:List Oper} {l:List DOp} {fr:Fr} {h:Heap} {fr':Fr} {h':Heap} {hps:List Hp} {rcs:List Rc} {pan':Option Pn} {F:Nat→Fr} {H:Nat→Heap} {Q:Nat→Option Nat} {K:Nat→Kd}
def zj0 (l:List DOp) (K:Nat→Kd) (i:Nat):Option (Nat×V) :=
 match l[i]?,K i with
 | some d,.val v=>d.o.dst.map fun t=>(t,v)
 | _,_=>none
theorem Kg0 {i t:Nat} {v:V} (hw:zj0 l K i=some (t,v)):∃ d,l[i]?=some d∧K i=.val v∧d.o.dst=some t:=by
 unfold zj0 at hw
 split at hw
 ·rename_i d v' hd hk
  cases hdst:d.o.dst with
  | none=>rw [hdst] at hw;cases hw
  | some t'=>rw [hdst] at hw;cases hw;exact ⟨d,hd,hk,hdst⟩
 ·cases hw
theorem StepOk.slots {d:DOp} {q q':Option Nat} {k:Kd} (hs:StepOk P E ih all d fr h q k fr' h' q'):((k=.no∨∃ v hp,k=.pan v hp)∧fr'=fr)∨∃ v,k=.val v∧fr.put d.o.dst v=some fr':=by
 cases hs with
 | no=>exact .inl ⟨.inl rfl,rfl⟩
 | skip _ _ hput _=>exact .inr ⟨_,rfl,hput⟩
 | val _ _ _ hput _ _=>exact .inr ⟨_,rfl,hput⟩
 | pan=>exact .inl ⟨.inr ⟨_,_,rfl⟩,rfl⟩
theorem StepOk.where_ {d:DOp} {q q':Option Nat} {k:Kd} (hs:StepOk P E ih all d fr h q k fr' h' q'):q'=q∨(q=none∧q'=some d.i∧∃ v hp,k=.pan v hp):=by
 cases hs with
 | no=>exact .inl rfl
 | skip=>exact .inl rfl
 | val=>exact .inl rfl
 | pan=>exact .inr ⟨rfl,rfl,_,_,rfl⟩
theorem StepOk.heap {d:DOp} {q q':Option Nat} {k:Kd} (hs:StepOk P E ih all d fr h q k fr' h' q') (hw:d.w=false):h'=h:=by
 cases hs with
 | no=>rfl
 | skip=>rfl
 | val _ _ _ _ _ hr=>exact hr hw
 | pan=>rfl
theorem Log.slots (L:Log P E ih all l fr h 0 [] [] none fr' h' hps rcs pan' F H Q K) (i:Nat) (hi:i≤l.length):F i={ fr with tm:=(F i).tm }∧∀ t,(F i).tm.get undef t=wr (zj0 l K) (fun _=>true) (fun t=>fr.tm.get undef t) t i:=by
 induction i with
 | zero=>rw [L.f0];exact ⟨rfl,fun t=>rfl⟩
 | succ i IH =>
  obtain ⟨h1,h2⟩:=IH (by omega)
  obtain ⟨d,hd⟩:=qr0 l i (by omega)
  have hs:=L.step i d hd
  have dn:K i=.no∨(∃ v hp,K i=.pan v hp)→F (i+1)=F i→F (i+1)={ fr with tm:=(F (i+1)).tm }∧∀ t,(F (i+1)).tm.get undef t=wr (zj0 l K) (fun _=>true) (fun t=>fr.tm.get undef t) t (i+1):=by
   intro hk he
   have:zj0 l K i=none:=by
    unfold zj0;rw [hd]
    rcases hk with hk | ⟨v,hp,hk⟩ <;> rw [hk]
   refine ⟨by rw [he];exact h1,fun t=>?_⟩
   simp only [wr,this,if_true]
   rw [he];exact h2 t
  have pt:∀ v,K i=.val v→(F i).put d.o.dst v=some (F (i+1))→F (i+1)={ fr with tm:=(F (i+1)).tm }∧∀ t,(F (i+1)).tm.get undef t=wr (zj0 l K) (fun _=>true) (fun t=>fr.tm.get undef t) t (i+1):=by
   intro v hk hp
   obtain ⟨q1,q2,q3⟩:=Jb0 hp
   refine ⟨?_,fun t=>?_⟩
   ·rw [q1,h1]
   ·rw [q2]
    simp only [wr,if_true]
    have hw:zj0 l K i=d.o.dst.map fun t=>(t,v):=by unfold zj0;rw [hd,hk]
    rw [hw]
    cases hdst:d.o.dst with
    | none=>simp [h2 t]
    | some u=>simp [h2 t]
  rcases hs.slots with ⟨a,b⟩ | ⟨v,a,b⟩
  ·exact dn a b
  ·exact pt v a b
theorem Log.panicked (L:Log P E ih all l fr h 0 [] [] none fr' h' hps rcs pan' F H Q K) (hat:∀ (i:Nat) d,l[i]?=some d→d.i=i) (i:Nat) (hi:i≤l.length):∀ p,Q i=some p→p<i∧∃ v hp,K p=.pan v hp:=by
 induction i with
 | zero=>intro p hp;rw [L.q0] at hp;cases hp
 | succ i IH =>
  have IH:=IH (by omega)
  obtain ⟨d,hd⟩:=qr0 l i (by omega)
  have hs:=L.step i d hd
  have hdi:=hat i d hd
  intro p hp
  rcases hs.where_ with a | ⟨_,a,v,hp',b⟩
  ·rw [a] at hp;obtain ⟨a,b⟩:=IH p hp;exact ⟨by omega,b⟩
  ·rw [a] at hp;cases hp
   exact ⟨by omega,v,hp',by rw [hdi];exact b⟩
theorem Log.after (L:Log P E ih all l fr h 0 [] [] none fr' h' hps rcs pan' F H Q K) (i j p:Nat) (hij:i≤j) (hj:j≤l.length) (hp:Q i=some p):Q j=some p:=by
 induction j with
 | zero =>
  have:i=0:=by omega
  subst this;exact hp
 | succ j IH =>
  by_cases e:i=j+1
  ·subst e;exact hp
  ·have hq:=IH (by omega) (by omega)
   obtain ⟨d,hd⟩:=qr0 l j (by omega)
   have hs:=L.step j d hd
   rcases hs.where_ with a | ⟨a,_⟩
   ·rw [a];exact hq
   ·rw [a] at hq;cases hq
theorem Log.still (L:Log P E ih all l fr h 0 [] [] none fr' h' hps rcs pan' F H Q K) (i j:Nat) (hij:i≤j) (hj:j≤l.length) (hn:∀ (k:Nat) d,i≤k→k<j→l[k]?=some d→d.w=false):H j=H i:=by
 induction j with
 | zero =>
  have:i=0:=by omega
  subst this;rfl
 | succ j IH =>
  by_cases e:i=j+1
  ·subst e;rfl
  ·rw [← IH (by omega) (by omega) fun k d h1 h2=>hn k d h1 (by omega)]
   obtain ⟨d,hd⟩:=qr0 l j (by omega)
   have hs:=L.step j d hd
   have hw:=hn j d (by omega) (by omega) hd
   exact hs.heap hw
theorem jt1 (l:List DOp) (i:Nat) (hi:i≤l.length):∃ c,i≤c∧c≤l.length∧(c=l.length∨∃ d,l[c]?=some d∧d.w=true)∧∀ (k:Nat) d,i≤k→k<c→l[k]?=some d→d.w=false:=by
 obtain ⟨m,hm⟩:∃ m,m=l.length-i:=⟨_,rfl⟩
 induction m generalizing i with
 | zero=>exact ⟨l.length,hi,Nat.le_refl _,.inl rfl,fun k d h1 h2=>by omega⟩
 | succ m IH =>
  obtain ⟨d,hd⟩:=qr0 l i (by omega)
  cases hw:d.w with
  | true=>exact ⟨i,Nat.le_refl _,hi,.inr ⟨d,hd,hw⟩,fun k d h1 h2=>by omega⟩
  | false =>
   obtain ⟨c,h1,h2,h3,h4⟩:=IH (i+1) (by omega) (by omega)
   refine ⟨c,by omega,h2,h3,fun k x a b hx=>?_⟩
   by_cases e:k=i
   ·subst e;rw [hd] at hx;cases hx;exact hw
   ·exact h4 k x (by omega) b hx
structure Inv (l:List DOp) (K:Nat→Kd) (f0:Nat→V) (D:Nat→Bool) (c:Nat) (tm:T V):Prop where
 lt:∀ i,D i=true→i<l.length
 closed:∀ (i:Nat) d j,D i=true→l[i]?=some d→tb d.b j=true→D j=true
 kval:∀ i,D i=true→∃ v,K i=.val v
 cle:c≤l.length
 cw:c=l.length∨∃ d,l[c]?=some d∧d.w=true
 cur:∀ (j:Nat) d,l[j]?=some d→d.w=true→(D j=true↔j<c)
 look:∀ t,tm.get undef t=wr (zj0 l K) D f0 t l.length
structure Turn (l:List DOp) (D:Nat→Bool) (i:Nat) (d:DOp):Prop where
 at_:l[i]?=some d
 new:D i=false
 pre:∀ e,e∈d.o.after.toList→ys0 e=true→D e.on=true
variable {ops:Array Oper} {D:Nat→Bool} {c:Nat} {tm:T V} {f0:Nat→V} {i:Nat} {d:DOp}
theorem Turn.before (hT:Turn l D i d) (hS:Static E ops l) (hI:Inv l K f0 D c tm) (j:Nat) (hj:tb d.b j=true):D j=true:=by
 obtain ⟨e,he,hb,hor⟩:=hS.bits i d j hT.at_ hj
 have hD:=hT.pre e he hb
 rcases hor with rfl | ⟨d',hd',hj'⟩
 ·exact hD
 ·exact hI.closed e.on d' j hD hd' hj'
theorem Turn.agree (hT:Turn l D i d) (hS:Static E ops l) (hI:Inv l K f0 D c tm) (t:Nat) (ht:t∈d.lk):tm.get undef t=wr (zj0 l K) (fun _=>true) f0 t i:=by
 have hi:=qd0 hT.at_
 rw [hI.look t,← yi2 (Nat.le_of_lt hi)]
 refine Qu0 fun j v hj hw=>?_
 obtain ⟨dj,hdj,_,hdst⟩:=Kg0 hw
 by_cases e:j=i
 ·subst e;rw [hT.new];simp
 ·rcases Nat.lt_or_ge j i with h | h
  ·rcases hS.pair j i dj d h hdj hT.at_ with q | ⟨_,q,_⟩
   ·rw [hT.before hS hI j q];simp [h]
   ·exact absurd ht (q t hdst)
  ·have h:i<j:=by omega
   rcases hS.pair i j d dj h hT.at_ hdj with q | ⟨_,_,q⟩
   ·have hDj:D j=false:=by
     cases hDj:D j with
     | false=>rfl
     | true =>
      have:=hI.closed j dj i hDj hdj q
      rw [hT.new] at this;cases this
    rw [hDj];simp;omega
   ·exact absurd ht (q t hdst)
theorem Turn.writer (hT:Turn l D i d) (hS:Static E ops l) (hI:Inv l K f0 D c tm) (hw:d.w=true):i=c:=by
 have hi:=qd0 hT.at_
 have h1:¬ i<c:=fun h=>by
  have:=(hI.cur i d hT.at_ hw).2 h
  rw [hT.new] at this;cases this
 rcases hI.cw with hc | ⟨dc,hdc,hcw⟩
 ·omega
 ·rcases Nat.lt_or_ge c i with h | h
  ·exfalso
   have hDc:D c=true:=by
    rcases hS.pair c i dc d h hdc hT.at_ with q | ⟨q,_⟩
    ·exact hT.before hS hI c q
    ·exact absurd ⟨hcw,hw⟩ q
   have:=(hI.cur c dc hdc hcw).1 hDc
   omega
  ·omega
theorem Inv.add (hI:Inv l K f0 D c tm) (hS:Static E ops l) (hT:Turn l D i d) {v:V} (hk:K i=.val v) {tm':T V} (htm:∀ t,tm'.get undef t=if d.o.dst=some t then v else tm.get undef t) :
 ∃ c',Inv l K f0 (fun j=>if j=i then true else D j) c' tm'∧((d.w=false∧c'=c)∨(d.w=true∧i+1≤c'∧∀ (k:Nat) x,i+1≤k→k<c'→l[k]?=some x→x.w=false)):=by
 have hi:=qd0 hT.at_
 have hlook:∀ t,tm'.get undef t=wr (zj0 l K) (fun j=>if j=i then true else D j) f0 t l.length:=by
  intro t
  rw [htm]
  cases hdst:d.o.dst with
  | none =>
   have hw:zj0 l K i=none:=by unfold zj0;rw [hT.at_,hk];simp [hdst]
   rw [if_neg (by simp),hI.look t]
   refine Qu0 fun j u hj hwj=>?_
   by_cases e:j=i
   ·subst e;rw [hw] at hwj;cases hwj
   ·rw [if_neg e]
  | some x =>
   have hw:zj0 l K i=some (x,v):=by unfold zj0;rw [hT.at_,hk];simp [hdst]
   rw [wr_add (D:=D) hi hw (fun j=>rfl) (fun j u h1 h2 hwj=>?_),hI.look t]
   ·simp
   ·obtain ⟨dj,hdj,_,hdst'⟩:=Kg0 hwj
    cases hDj:D j with
    | false=>rfl
    | true =>
     rcases hS.pair i j d dj h1 hT.at_ hdj with q | ⟨_,q,_⟩
     ·have:=hI.closed j dj i hDj hdj q
      rw [hT.new] at this;cases this
     ·have hdat:=hS.at_ j dj hdj
      refine absurd ?_ (q x hdst)
      rw [hdat.2.2.2]
      unfold looks
      rw [List.app_eq,hdst'];simp
 have base:∀ c',c'≤l.length→(c'=l.length∨∃ d,l[c']?=some d∧d.w=true)→(∀ (j:Nat) x,l[j]?=some x→x.w=true→((if j=i then true else D j)=true↔j<c'))→Inv l K f0 (fun j=>if j=i then true else D j) c' tm':=by
  intro c' h1 h2 h3
  refine ⟨fun j hj=>?_,fun j x k hj hx hk'=>?_,fun j hj=>?_,h1,h2,h3,hlook⟩
  ·by_cases e:j=i
   ·omega
   ·rw [if_neg e] at hj;exact hI.lt j hj
  ·show (if k=i then true else D k)=true
   by_cases e:j=i
   ·subst e
    rw [hT.at_] at hx;cases hx
    rw [hT.before hS hI k hk'];simp
   ·have hj:D j=true:=by have hj:(if j=i then true else D j)=true:=hj;rwa [if_neg e] at hj
    rw [hI.closed j x k hj hx hk'];simp
  ·by_cases e:j=i
   ·subst e;exact ⟨v,hk⟩
   ·rw [if_neg e] at hj;exact hI.kval j hj
 cases hw:d.w with
 | false =>
  refine ⟨c,base c hI.cle hI.cw fun j x hx hxw=>?_,.inl ⟨rfl,rfl⟩⟩
  have:j≠i:=fun e=>by subst e;rw [hT.at_] at hx;cases hx;rw [hw] at hxw;cases hxw
  rw [if_neg this];exact hI.cur j x hx hxw
 | true =>
  have hic:=hT.writer hS hI hw
  obtain ⟨c',h1,h2,h3,h4⟩:=jt1 l (i+1) (by omega)
  refine ⟨c',base c' h2 h3 fun j x hx hxw=>?_,.inr ⟨rfl,h1,h4⟩⟩
  by_cases e:j=i
  ·rw [if_pos e];exact ⟨fun _=>by omega,fun _=>rfl⟩
  ·rw [if_neg e,hI.cur j x hx hxw]
   constructor
   ·intro h;omega
   ·intro h
    rcases Nat.lt_or_ge j c with q | q
    ·exact q
    ·exfalso
     have:=h4 j x (by omega) h hx
     rw [this] at hxw;cases hxw
end
variable {P:Program} {E:Env} {ih:Task→Res} {B:Ns} {w0:World}
theorem Kf0 {f:V→V→Bool} (hf:∀ x y,f x y=true→x=y) (a:List V):∀ b,zP0 f a b=true→a=b:=by
 induction a with
 | nil=>intro b h;cases b with
  | nil=>rfl
  | cons _ _=>cases h
 | cons x a IH =>
  intro b h
  cases b with
  | nil=>cases h
  | cons y b =>
   change (bif f x y then zP0 f a b else false)=true at h
   cases hxy:f x y with
   | false=>rw [hxy] at h;cases h
   | true=>rw [hxy] at h;rw [hf x y hxy,IH b h]
theorem Xy0 (a b:Option Nat) (h:yC0 a b=true):a=b:=by
 cases a <;> cases b <;> simp_all [yC0]
theorem qw1 (k:Nat):∀ x y,veq k x y=true→x=y:=by
 induction k with
 | zero=>intro x y h;cases h
 | succ k IH =>
  intro x y h
  have hl:=Kf0 IH
  have nb:∀ a b:Nat,Nat.beq a b=true→a=b:=fun a b e=>by rw [Nat.beq_eq] at e;exact e
  cases x with
  | int a b =>
   cases y with
   | int c d =>
    change (zh0 a c&&ieq b d)=true at h
    rw [Bool.and_eq_true] at h
    rw [(Qa0 _ _).1 h.1,(ZF0 _ _).1 h.2]
   | _=>cases h
  | bool a =>
   cases y with
   | bool b=>cases a <;> cases b <;> first | rfl | cases h
   | _=>cases h
  | str a =>
   cases y with
   | str b=>rw [(Jp0 a b).1 h]
   | _=>cases h
  | nilp=>cases y <;> first | rfl | cases h
  | ptr a b c =>
   cases y with
   | ptr a' b' c' =>
    change (Nat.beq a a'&&Nat.beq b b'&&Nat.beq c c')=true at h
    simp only [Bool.and_eq_true] at h
    rw [nb _ _ h.1.1,nb _ _ h.1.2,nb _ _ h.2]
   | _=>cases h
  | gptr s es c =>
   cases y with
   | gptr s' es' c' =>
    change (Nat.beq s s'&&Nat.beq c c'&&zP0 (veq k) es es')=true at h
    simp only [Bool.and_eq_true] at h
    rw [nb _ _ h.1.1,nb _ _ h.1.2,hl _ _ h.2]
   | _=>cases h
  | nils=>cases y <;> first | rfl | cases h
  | sl a b c d e =>
   cases y with
   | sl a' b' c' d' e' =>
    change (Nat.beq a a'&&Nat.beq b b'&&Nat.beq c c'&&Nat.beq d d'&&yC0 e e')=true at h
    simp only [Bool.and_eq_true] at h
    rw [nb _ _ h.1.1.1.1,nb _ _ h.1.1.1.2,nb _ _ h.1.1.2,nb _ _ h.1.2,Xy0 _ _ h.2]
   | _=>cases h
  | gsl s es c =>
   cases y with
   | gsl s' es' c' =>
    change (Nat.beq s s'&&yC0 c c'&&zP0 (veq k) es es')=true at h
    simp only [Bool.and_eq_true] at h
    rw [nb _ _ h.1.1,Xy0 _ _ h.1.2,hl _ _ h.2]
   | _=>cases h
  | fsl=>cases y <;> cases h
  | nilm=>cases y <;> first | rfl | cases h
  | map a =>
   cases y with
   | map b=>rw [nb _ _ h]
   | _=>cases h
  | iter=>cases y <;> cases h
  | func f a b =>
   cases y with
   | func f' a' b' =>
    change (decide (f=f')&&zP0 (veq k) a a'&&zP0 (veq k) b b')=true at h
    simp only [Bool.and_eq_true,decide_eq_true_eq] at h
    rw [h.1.1,hl _ _ h.1.2,hl _ _ h.2]
   | _=>cases h
  | nilf=>cases y <;> first | rfl | cases h
  | nili=>cases y <;> first | rfl | cases h
  | iface t v =>
   cases y with
   | iface t' v' =>
    change (Nat.beq t t'&&veq k v v')=true at h
    rw [Bool.and_eq_true] at h
    rw [nb _ _ h.1,IH _ _ h.2]
   | _=>cases h
  | agg a =>
   cases y with
   | agg b=>rw [hl _ _ h]
   | _=>cases h
  | tup a =>
   cases y with
   | tup b=>rw [hl _ _ h]
   | _=>cases h
  | any=>cases y <;> cases h
  | osl=>cases y <;> cases h
  | gmap=>cases y <;> cases h
  | imod k0 a b =>
   cases y with
   | imod k' a' b' =>
    change (zh0 k0 k'&&Nat.beq a a'&&Nat.beq b b')=true at h
    simp only [Bool.and_eq_true] at h
    rw [(Qa0 _ _).1 h.1.1,nb _ _ h.1.2,nb _ _ h.2]
   | _=>cases h
theorem StepOk.inv {all:List Oper} {d:DOp} {fr fr':Fr} {h h':Heap} {q q':Option Nat} {k:Kd} (hs:StepOk P E ih all d fr h q k fr' h' q') :
 (∃ p,q=some p∧tb d.b p=true∧k=.no)∨(k=.val undef∧wanted all fr d.o=some false∧fr.put d.o.dst undef=some fr'∧h'=h) ∨
  (∃ v,k=.val v∧wanted all fr d.o=some true∧qn0 P E ih fr.tm h d.o=.val v h'∧fr.put d.o.dst v=some fr') ∨
  (∃ v hp,k=.pan v hp∧wanted all fr d.o=some true∧d.w=true∧qn0 P E ih fr.tm h d.o=.panic v hp∧q=none∧q'=some d.i):=by
 cases hs with
 | no hb=>exact .inl ⟨_,rfl,hb,rfl⟩
 | skip _ hw hput _=>exact .inr (.inl ⟨rfl,hw,hput,rfl⟩)
 | val _ hw hd hput _ _=>exact .inr (.inr (.inl ⟨_,rfl,hw,hd,hput⟩))
 | pan hw hdw hd=>exact .inr (.inr (.inr ⟨_,_,rfl,hw,hdw,hd,rfl,rfl⟩))
theorem Ko1 (l:List DOp):∀ fr:Fr,zG0 l fr={ fr with tm:=(zG0 l fr).tm }∧∀ t,(zG0 l fr).tm.get undef t=fr.tm.get undef t∧(∀ (i:Nat) d,l[i]?=some d→d.o.dst≠some t)∨((zG0 l fr).tm.get undef t=qz0∧¬ fr.n≤t)∨fr.n≤t∧(zG0 l fr).tm.get undef t=fr.tm.get undef t:=by
 induction l with
 | nil=>intro fr;exact ⟨rfl,fun t=>.inl ⟨rfl,fun i d hd=>by cases i <;> cases hd⟩⟩
 | cons d l IH =>
  intro fr
  change (match fr.put d.o.dst qz0 with | some fr'=>zG0 l fr' | none=>zG0 l fr)=_∧_
  have hl:zG0 (d::l) fr=match fr.put d.o.dst qz0 with | some fr'=>zG0 l fr' | none=>zG0 l fr:=rfl
  rw [hl]
  cases hp:fr.put d.o.dst qz0 with
  | none =>
   simp only
   obtain ⟨h1,h2⟩:=IH fr
   refine ⟨h1,fun t=>?_⟩
   rcases h2 t with ⟨a,b⟩ | a | ⟨a,b⟩
   ·by_cases e:d.o.dst=some t
    ·refine .inr (.inr ⟨?_,a⟩)
     rcases Nat.lt_or_ge t fr.n with q | q
     ·obtain ⟨x,hx⟩:=jR1 (fr:=fr) (v:=qz0) (d:=d.o.dst) (fun u hu=>by rw [e] at hu;cases hu;exact q)
      rw [hp] at hx;cases hx
     ·exact q
    ·refine .inl ⟨a,fun i x hx=>?_⟩
     cases i with
     | zero=>cases hx;exact e
     | succ i=>exact b i x hx
   ·exact .inr (.inl a)
   ·exact .inr (.inr ⟨a,b⟩)
  | some fr1 =>
   simp only
   obtain ⟨p1,p2,p3⟩:=Jb0 hp
   obtain ⟨h1,h2⟩:=IH fr1
   have hn:fr1.n=fr.n:=by rw [p1]
   refine ⟨by rw [h1,p1],fun t=>?_⟩
   rcases h2 t with ⟨a,b⟩ | a | ⟨a,b⟩
   ·by_cases e:d.o.dst=some t
    ·rw [p2,if_pos e] at a;exact .inr (.inl ⟨a,Nat.not_le.2 (p3 t e)⟩)
    ·rw [p2,if_neg e] at a
     refine .inl ⟨a,fun i x hx=>?_⟩
     cases i with
     | zero=>cases hx;exact e
     | succ i=>exact b i x hx
   ·rw [hn] at a;exact .inr (.inl a)
   ·rw [hn] at a
    have e:d.o.dst≠some t:=fun e=>absurd (p3 t e) (Nat.not_lt.2 a)
    rw [p2,if_neg e] at b
    exact .inr (.inr ⟨a,b⟩)
section
variable {ops:Array Oper} {l:List DOp} {fr:Fr} {h:Heap} {fr':Fr} {h':Heap} {hps:List Hp} {rcs:List Rc} {pan':Option Pn} {F:Nat→Fr} {H:Nat→Heap} {Q:Nat→Option Nat} {K:Nat→Kd} {D:Nat→Bool} {c:Nat} {tm:T V} {i:Nat} {d:DOp}
theorem Log.noPanic (L:Log P E ih ops.toList l fr h 0 [] [] none fr' h' hps rcs pan' F H Q K) (hS:Static E ops l) (hI:Inv l K (fun t=>fr.tm.get undef t) D c tm):Q c=none:=by
 cases hq:Q c with
 | none=>rfl
 | some p =>
  obtain ⟨hp,v,hpp,hk⟩:=L.panicked (fun i d hd=>(hS.at_ i d hd).2.1) c hI.cle p hq
  obtain ⟨dp,hdp⟩:=qr0 l p (by have:=hI.cle;omega)
  have hw:dp.w=true:=by
   rcases (L.step p dp hdp).inv with ⟨_,_,_,e⟩ | ⟨e,_⟩ | ⟨_,e,_⟩ | ⟨_,_,_,_,e,_⟩
   ·rw [hk] at e;cases e
   ·rw [hk] at e;cases e
   ·rw [hk] at e;cases e
   ·exact e
  have hD:=(hI.cur p dp hdp hw).2 hp
  obtain ⟨u,hu⟩:=hI.kval p hD
  rw [hk] at hu;cases hu
theorem Gt1 {b:Bool} {p:Prop} (hb:b=true→p) (h:orD b p=true):p:=by
 unfold orD at h
 cases b with
 | true=>exact hb rfl
 | false=>exact @of_decide_eq_true p (Classical.propDecidable p) h
def CkP (P:Program) (E:Env) (ih:Task→Res) (hps:List Hp) (rcs:List Rc):Prop:=∀ r,r∈rcs→∀ e,e∈hps→tb e.pb r.i=true∨jp0 r.b e.nx=true∨∃ h',qn0 P E ih r.tm e.h r.o=.val r.v h'
theorem CkP.of_all {hps:List Hp} {rcs:List Rc} (h:QC0 P E ih hps rcs=true):CkP P E ih hps rcs:=by
 intro r hr e he
 have hone:=(yK0 _ _).1 ((yK0 _ _).1 h _ hr) e he
 unfold yH0 at hone
 cases h1:tb e.pb r.i with
 | true=>exact .inl rfl
 | false =>
  rw [h1] at hone
  cases h2:jp0 r.b e.nx with
  | true=>exact .inr (.inl rfl)
  | false =>
   rw [h2] at hone
   simp only [cond_false] at hone
   right;right
   cases hop:qn0 P E ih r.tm e.h r.o with
   | val u hx' =>
    rw [hop] at hone
    have:=Gt1 (fun q=>qw1 _ _ _ q) hone
    subst this
    exact ⟨hx',rfl⟩
   | panic _ _=>rw [hop] at hone;cases hone
   | stuck=>rw [hop] at hone;cases hone
theorem Log.read (L:Log P E ih ops.toList l fr h 0 [] [] none fr' h' hps rcs pan' F H Q K) (hS:Static E ops l) (hck:jo0 l=true∨CkP P E ih hps rcs) (hI:Inv l K (fun t=>fr.tm.get undef t) D c tm) (hT:Turn l D i d)
 {v:V} (hk:K i=.val v) (hwt:wanted ops.toList (F i) d.o=some true) {hx:Heap} (hd:qn0 P E ih (F i).tm (H i) d.o=.val v hx) (hw:d.w=false):qn0 P E ih (F i).tm (H c) d.o=.val v (H c):=by
 obtain ⟨_,hdi,hdw,_⟩:=hS.at_ i d hT.at_
 have hrd:yQ0 E d.o.op=true:=by rw [hw] at hdw;simpa using hdw.symm
 have hi:=qd0 hT.at_
 cases hp:zR0 E d.o.op with
 | true=>exact Yu1 hp hd (H c)
 | false =>
  by_cases hnw:jo0 l=true
  ·have hall:=(yK0 _ _).1 hnw
   have hno:∀ (k:Nat) x,l[k]?=some x→x.w=false:=fun k x hx=>by simpa using hall x (List.mem_of_getElem? hx)
   have e1:=L.still 0 i (Nat.zero_le _) (Nat.le_of_lt hi) fun k x _ _ hx=>hno k x hx
   have e2:=L.still 0 c (Nat.zero_le _) hI.cle fun k x _ _ hx=>hno k x hx
   have e:H c=H i:=e2.trans e1.symm
   rw [e]
   have:=KE0 hrd hd
   rw [this] at hd;exact hd
  ·have hck:CkP P E ih hps rcs:=hck.resolve_left hnw
   have hrc:=L.reads i d v hT.at_ hk hw hp hwt
   have hq:=L.noPanic hS hI
   have hent:∃ e,e∈hps∧e.h=H c∧(∀ j,e.nx=some j→j=c∧c<l.length∧∃ dc,l[c]?=some dc∧dc.w=true)∧(e.pb=0∨∃ (j:Nat) (d':DOp),j<c∧l[j]?=some d'∧d'.w=true∧e.pb=d'.b):=by
    rcases hI.cw with hc | ⟨dc,hdc,hcw⟩
    ·subst hc
     have hpn:pan'=none:=by
      have:=L.qn
      rw [hq] at this
      cases pan' with
      | none=>rfl
      | some _=>cases this
     obtain ⟨e,h1,h2,h3,h4⟩:=L.last hpn
     refine ⟨e,h1,h2.trans L.hn.symm,fun j hj=>(by rw [h3] at hj;cases hj),h4.imp id fun ⟨j,d',a,b⟩=>⟨j,d',qd0 a,a,b⟩⟩
    ·obtain ⟨e,h1,h2,h3,h4⟩:=L.heaps c dc hdc hcw hq
     have hci:=(hS.at_ c dc hdc).2.1
     refine ⟨e,h1,h2,fun j hj=>(by rw [h3,hci] at hj;cases hj;exact ⟨rfl,qd0 hdc,dc,hdc,hcw⟩),h4⟩
   obtain ⟨e,he,heh,hnx,hpb⟩:=hent
   have hone:=hck _ hrc e he
   simp only at hone
   have h1:tb e.pb d.i=false:=by
    rcases hpb with hpb | ⟨j,d',hj,hd',hw',hpb⟩
    ·rw [hpb,QH1]
    ·rw [hpb,hdi]
     cases ht:tb d'.b i with
     | false=>rfl
     | true =>
      have:=hI.closed j d' i ((hI.cur j d' hd' hw').2 hj) hd' ht
      rw [hT.new] at this;cases this
   have hone:=hone.resolve_left (by rw [h1];simp)
   have h2:jp0 d.b e.nx=false:=by
    cases hn:e.nx with
    | none=>rfl
    | some j =>
     obtain ⟨rfl,_,dc,hdc,hcw⟩:=hnx j hn
     show tb d.b j=false
     cases ht:tb d.b j with
     | false=>rfl
     | true =>
      have:=(hI.cur j dc hdc hcw).1 (hT.before hS hI j ht)
      omega
   obtain ⟨hx',hop⟩:=hone.resolve_left (by rw [h2];simp)
   rw [heh] at hop
   have:=KE0 hrd hop
   rw [hop,this]
theorem Log.agree (L:Log P E ih ops.toList l fr h 0 [] [] none fr' h' hps rcs pan' F H Q K) (hS:Static E ops l) (hI:Inv l K (fun t=>fr.tm.get undef t) D c tm) (hT:Turn l D i d) (t:Nat) (ht:t∈looks ops.toList d.o):tm.get undef t=(F i).tm.get undef t:=by
 have hlk:=(hS.at_ i d hT.at_).2.2.2
 rw [(L.slots i (Nat.le_of_lt (qd0 hT.at_))).2 t]
 exact hT.agree hS hI t (by rw [hlk];exact ht)
theorem Ke1 {listed:Array Bool} {n:Nat} (hl:listed.size=n) {i:Nat} (hi:listed.getD i true=false):(List.range n).countP (fun j=>!((listed.setIfInBounds i true).getD j false))+1≤(List.range n).countP (fun j=>!(listed.getD j false)):=by
 have hin:i<n:=by
  rcases Nat.lt_or_ge i listed.size with q | q
  ·omega
  ·have e:=Array.getElem?_eq_none q
   rw [Array.getD_eq_getD_getElem?,e] at hi;cases hi
 have hif:listed.getD i false=false:=by
  have e:=Array.getElem?_eq_getElem (xs:=listed) (i:=i) (by omega)
  rw [Array.getD_eq_getD_getElem?,e] at hi ⊢
  simpa using hi
 have hset:∀ j,(listed.setIfInBounds i true).getD j false=if j=i then true else listed.getD j false:=by
  intro j
  rw [Array.getD_eq_getD_getElem?,Array.getElem?_setIfInBounds]
  by_cases e:j=i
  ·subst e;rw [if_pos rfl,if_pos (by omega),if_pos rfl];rfl
  ·rw [if_neg (fun q=>e q.symm),if_neg e,Array.getD_eq_getD_getElem?]
 have gen:∀ m,i<m→(List.range m).countP (fun j=>!(if j=i then true else listed.getD j false))+1≤(List.range m).countP (fun j=>!(listed.getD j false))∧True:=by
  intro m hm
  induction m with
  | zero=>omega
  | succ m IH =>
   rw [List.range_succ,List.countP_append,List.countP_append]
   simp only [List.countP_singleton]
   by_cases e:i=m
   ·subst e
    have hsame:(List.range i).countP (fun j=>!(if j=i then true else listed.getD j false))=(List.range i).countP (fun j=>!(listed.getD j false)):=by
     apply List.countP_congr
     intro j hj
     rw [List.mem_range] at hj
     have hne:¬ j=i:=by omega
     simp [hne]
    rw [hsame,hif]
    simp
   ·have:=(IH (by omega)).1
    have hne:¬ m=i:=fun q=>e q.symm
    simp only [hne,if_false]
    exact ⟨by omega,trivial⟩
 have:=(gen n hin).1
 have e:(fun j=>!((listed.setIfInBounds i true).getD j false))=(fun j=>!(if j=i then true else listed.getD j false)):=by
  funext j;rw [hset]
 rw [e];exact this
theorem zd2 {listed:Array Bool} {i:Nat} (hi:listed.getD i true=false) (j:Nat):(listed.setIfInBounds i true).getD j false=if j=i then true else listed.getD j false:=by
 have hin:i<listed.size:=by
  rcases Nat.lt_or_ge i listed.size with q | q
  ·exact q
  ·have e:=Array.getElem?_eq_none q
   rw [Array.getD_eq_getD_getElem?,e] at hi;cases hi
 rw [Array.getD_eq_getD_getElem?,Array.getElem?_setIfInBounds]
 by_cases e:j=i
 ·subst e;rw [if_pos rfl,if_pos hin,if_pos rfl];rfl
 ·rw [if_neg (fun q=>e q.symm),if_neg e,Array.getD_eq_getD_getElem?]
def Zw0 (l:List DOp) (fr':Fr) (h':Heap) (pan':Option Pn):Res :=
 match pan' with
 | none=>.code .normal fr' h'
 | some p=>.code (.panic p.v) (zG0 l fr') p.h
theorem YA1 (hSn:Snd P E ih) (L:Log P E ih ops.toList l fr h 0 [] [] none fr' h' hps rcs pan' F H Q K) (hS:Static E ops l) (hck:jo0 l=true∨CkP P E ih hps rcs) {b:Frame} {k:List Item} {cs:List Frame} :
 ∀ (fuel t:Nat) (listed:Array Bool) (c:Nat) (tm:T V) (g:Gh) (w:World) (a:Act),listed.size=l.length→(List.range l.length).countP (fun j=>!(listed.getD j false))≤fuel→Inv l K (fun t=>fr.tm.get undef t) (fun j=>listed.getD j false) c tm →
  W B w0 g (H c) w→GlobOk E.glob g.S→FrOk g b { fr with tm:=tm } a →
  CodeOk P B w0 g (lone (b.atR a (.inRegion ops (Region.linearise.go .any ops fuel t listed [])::k)) cs w) b k cs (Zw0 l fr' h' pan'):=by
 intro fuel
 have fin:∀ (listed:Array Bool) (c:Nat) (tm:T V) (g:Gh) (w:World) (a:Act),(∀ j,j<l.length→listed.getD j false=true)→Inv l K (fun t=>fr.tm.get undef t) (fun j=>listed.getD j false) c tm→W B w0 g (H c) w→FrOk g b { fr with tm:=tm } a →
  CodeOk P B w0 g (lone (b.atR a (.inRegion ops []::k)) cs w) b k cs (Zw0 l fr' h' pan'):=by
  intro listed c tm g w a hall hI hW hf
  have hc:c=l.length:=by
   rcases hI.cw with hc | ⟨dc,hdc,hcw⟩
   ·exact hc
   ·have:=(hI.cur c dc hdc hcw).1 (hall c (qd0 hdc));omega
  subst hc
  have hpn:pan'=none:=by
   have hq:=L.noPanic hS hI
   have:=L.qn
   rw [hq] at this
   cases pan' with
   | none=>rfl
   | some _=>cases this
  subst hpn
  obtain ⟨s1,s2⟩:=L.slots l.length (Nat.le_refl _)
  rw [L.fn] at s1 s2
  have htm:∀ t,tm.get undef t=fr'.tm.get undef t:=by
   intro t
   rw [hI.look,s2]
   exact Qu0 fun j v hj _=>hall j hj
  rw [L.hn] at hW
  refine ⟨g,a,w,Grown.refl _ _,hW,?_,.one stepR_region_end⟩
  change FrOk g b fr' a
  rw [s1]
  exact ⟨hf.fn,⟨hf.slots.size,fun i v hv=>by have:=hf.slots.rel i v hv;simp only at this ⊢;rw [← htm];exact this,fun i hi=>by have:=hf.slots.none i hi;simp only at this ⊢;rw [← htm];exact this⟩,hf.round,hf.marks⟩
 have done:∀ (listed:Array Bool),listed.size=l.length→Region.ready .any ops listed=[]→∀ j,j<l.length→listed.getD j false=true:=by
  intro listed hsz hr j
  induction j using Nat.strongRecOn with
  | _ j IH =>
   intro hj
   cases hlj:listed.getD j false with
   | true=>rfl
   | false =>
    exfalso
    obtain ⟨d,hd⟩:=qr0 l j hj
    have:j∈Region.ready .any ops listed:=by
     rw [mem_ready]
     refine ⟨?_,d.o,(hS.at_ j d hd).1,fun e he hb=>?_⟩
     ·have e:=Array.getElem?_eq_getElem (xs:=listed) (i:=j) (by omega)
      rw [Array.getD_eq_getD_getElem?,e] at hlj ⊢
      simpa using hlj
     ·have hlt:=hS.edge j d e hd (by simpa using he) (by rw [qO1];exact hb)
      exact IH e.on hlt (by omega)
    rw [hr] at this;cases this
 induction fuel with
 | zero =>
  intro t listed c tm g w a hsz hcnt hI hW hG hf
  simp only [Region.linearise.go,List.reverse_nil]
  refine fin listed c tm g w a (fun j hj=>?_) hI hW hf
  cases hlj:listed.getD j false with
  | true=>rfl
  | false =>
   exfalso
   have:0<(List.range l.length).countP (fun j=>!(listed.getD j false)):=by
    rw [List.countP_pos_iff]
    exact ⟨j,by simp [hj],by simp only [hlj];rfl⟩
   omega
 | succ fuel IH =>
  intro t listed c tm g w a hsz hcnt hI hW hG hf
  simp only [Region.linearise.go]
  change CodeOk P B w0 g (lone (b.atR a (.inRegion ops (match (Region.ready .any ops listed)[t%(Region.ready .any ops listed).length]? with
   | some i=>Region.linearise.go .any ops fuel (t/(Region.ready .any ops listed).length) (listed.setIfInBounds i true) [i]
   | none=>[].reverse)::k)) cs w) b k cs (Zw0 l fr' h' pan')
  cases hi:(Region.ready .any ops listed)[t%(Region.ready .any ops listed).length]? with
  | none =>
   have hnil:Region.ready .any ops listed=[]:=by
    cases hr:Region.ready .any ops listed with
    | nil=>rfl
    | cons x xs =>
     rw [hr] at hi
     have hlt:t%(x::xs).length<(x::xs).length:=Nat.mod_lt _ (by simp)
     simp at hi
     simp at hlt
     omega
   simp only [List.reverse_nil]
   exact fin listed c tm g w a (done listed hsz hnil) hI hW hf
  | some i =>
   simp only []
   rw [linearise_go_acc,List.reverse_singleton,List.singleton_append]
   have hmem:=List.mem_of_getElem? hi
   rw [mem_ready] at hmem
   obtain ⟨hnew,o,ho,hpre⟩:=hmem
   have hin:i<l.length:=by rw [hS.len];exact yS0 ho
   obtain ⟨d,hd⟩:=qr0 l i hin
   obtain ⟨hod,hdi,hdw,hdl⟩:=hS.at_ i d hd
   have hoo:d.o=o:=by rw [ho] at hod;cases hod;rfl
   have hT:Turn l (fun j=>listed.getD j false) i d:=by
    refine ⟨hd,?_,fun e he hb=>hpre e (by rw [← hoo];simpa using he) (by rw [← qO1];exact hb)⟩
    have e:=Array.getElem?_eq_getElem (xs:=listed) (i:=i) (by omega)
    show listed.getD i false=false
    rw [Array.getD_eq_getD_getElem?,e] at hnew ⊢
    simpa using hnew
   have hD':(fun j=>if j=i then true else listed.getD j false)=fun j=>(listed.setIfInBounds i true).getD j false:=by
    funext j;exact (zd2 hnew j).symm
   have hcnt':=Ke1 hsz hnew
   have hagree:=fun t ht=>L.agree hS hI hT t ht
   have hwt':wanted ops.toList { fr with tm:=tm } d.o=wanted ops.toList (F i) d.o:=yf2 fun t ht=>hagree t (by unfold looks;rw [List.app_eq,List.app_eq];simp [ht])
   have hop':∀ x,qn0 P E ih tm x d.o=qn0 P E ih (F i).tm x d.o:=fun x=>Yt1 x fun t ht=>hagree t (by unfold looks;rw [List.app_eq,List.app_eq];simp [ht])
   subst hoo
   have more:∀ (v:V) (g':Gh) (w':World) (u:Value) (fr1:Fr),K i=.val v→(F i).put d.o.dst v=some fr1→(d.w=true→H (i+1)=H (i+1))→Grown B g g'→R g' u v→(∀ c',(d.w=false∧c'=c∨d.w=true∧i+1≤c'∧∀ (k:Nat) x,i+1≤k→k<c'→l[k]?=some x→x.w=false)→c'≤l.length→W B w0 g' (H c') w') →
    Steps P (lone (b.atR a (.inRegion ops (i::Region.linearise.go .any ops fuel (t/(Region.ready .any ops listed).length) (listed.setIfInBounds i true) [])::k)) cs w) (lone (b.atR (a.put d.o.dst u) (.inRegion ops (Region.linearise.go .any ops fuel (t/(Region.ready .any ops listed).length) (listed.setIfInBounds i true) [])::k)) cs w') →
    CodeOk P B w0 g (lone (b.atR a (.inRegion ops (i::Region.linearise.go .any ops fuel (t/(Region.ready .any ops listed).length) (listed.setIfInBounds i true) [])::k)) cs w) b k cs (Zw0 l fr' h' pan'):=by
    intro v g' w' u fr1 hk hput _ hg hR hW' hst
    obtain ⟨_,_,hlt⟩:=Jb0 hput
    have hFn:(F i).n=fr.n:=by rw [(L.slots i (Nat.le_of_lt hin)).1]
    obtain ⟨fr2,hp2⟩:=jR1 (fr:={ fr with tm:=tm }) (v:=v) (d:=d.o.dst) (fun t ht=>by have:=hlt t ht;rw [hFn] at this;exact this)
    obtain ⟨q1,q2,_⟩:=Jb0 hp2
    obtain ⟨c',hI',hc'⟩:=hI.add hS hT hk (tm':=fr2.tm) (fun t=>q2 t)
    have hf':=(hf.mono hg.ext).put hR hp2
    rw [q1] at hf'
    rw [hD'] at hI'
    refine .of_steps hst hg (IH _ _ c' fr2.tm g' w' _ (by simp [hsz]) (by omega) hI' (hW' c' hc' hI'.cle) (hG.mono hg.ext.S) hf')
   rcases (L.step i d hd).inv with ⟨p,hq,hb,hk⟩ | ⟨hk,hwt,hput,hh⟩ | ⟨v,hk,hwt,hdo,hput⟩ | ⟨v,hp,hk,hwt,hw,hdo,hq,hq'⟩
   ·exfalso
    have hDp:listed.getD p false=true:=hT.before hS hI p hb
    obtain ⟨_,v,hp,hkp⟩:=L.panicked (fun i d hd=>(hS.at_ i d hd).2.1) i (Nat.le_of_lt hin) p hq
    obtain ⟨u,hu⟩:=hI.kval p hDp
    rw [hkp] at hu;cases hu
   ·-- not wanted
    rw [hwt] at hwt'
    have hw:=Jt0 hf hwt'
    have hs:=stepR_op_skip (P:=P) (b:=b) (a:=a) (k:=k) (cs:=cs) (w:=w) (ops:=ops) (i:=i) (rest:=Region.linearise.go .any ops fuel (t/(Region.ready .any ops listed).length) (listed.setIfInBounds i true) []) (by simp [ho];simpa using hw)
    simp only [ho,Option.bind_some] at hs
    refine more undef g w _ _ hk hput (fun _=>rfl) (Grown.refl _ _) R.undef (fun c' hc' hcl=>?_) (.one hs)
    rcases hc' with ⟨_,rfl⟩ | ⟨hw',hge,hno⟩
    ·exact hW
    ·have hic:=hT.writer hS hI hw'
     subst hic
     rw [L.still (i+1) c' hge hcl hno,hh];exact hW
   ·rw [hwt] at hwt'
    have hw:=Jt0 hf hwt'
    have hok:=zm1 hSn (k:=k) (cs:=cs) (rest:=Region.linearise.go .any ops fuel (t/(Region.ready .any ops listed).length) (listed.setIfInBounds i true) []) ho hw hW hG hf
    simp only at hok
    rw [hop'] at hok
    cases hdw':d.w with
    | false =>
     rw [L.read hS hck hI hT hk hwt hdo hdw'] at hok
     obtain ⟨g',w',u,hg,hW',hR,hst⟩:=hok
     refine more v g' w' u _ hk hput (fun _=>rfl) hg hR (fun c' hc' hcl=>?_) hst
     rcases hc' with ⟨_,rfl⟩ | ⟨hw',_⟩
     ·exact hW'
     ·rw [hdw'] at hw';cases hw'
    | true =>
     have hic:=hT.writer hS hI hdw'
     subst hic
     rw [hdo] at hok
     obtain ⟨g',w',u,hg,hW',hR,hst⟩:=hok
     refine more v g' w' u _ hk hput (fun _=>rfl) hg hR (fun c' hc' hcl=>?_) hst
     rcases hc' with ⟨hw',_⟩ | ⟨hw',hge,hno⟩
     ·rw [hdw'] at hw';cases hw'
     ·rw [L.still (i+1) c' hge hcl hno];exact hW'
   ·rw [hwt] at hwt'
    have hwd:=Jt0 hf hwt'
    have hok:=zm1 hSn (k:=k) (cs:=cs) (rest:=Region.linearise.go .any ops fuel (t/(Region.ready .any ops listed).length) (listed.setIfInBounds i true) []) ho hwd hW hG hf
    simp only at hok
    have hic:=hT.writer hS hI hw
    subst hic
    rw [hop',hdo] at hok
    obtain ⟨g',w',u,todo,hg,hW',hR,hst⟩:=hok
    have hqn:=L.after (i+1) l.length i (by omega) (Nat.le_refl _) (by rw [hq',hdi])
    rw [L.qn] at hqn
    cases pan' with
    | none=>cases hqn
    | some p =>
     obtain ⟨i2,d2,hd2,hdi2,hk2,_⟩:=L.made p rfl rfl
     have hi2:i2=i:=by
      have h1:=(hS.at_ i2 d2 hd2).2.1
      have h2:p.i=i:=by simpa using hqn
      omega
     subst hi2
     rw [hk] at hk2
     cases hk2
     refine ⟨g',a,w',hg,hW',?_,u,todo,hR,hst⟩
     change FrOkP g' b (zG0 l fr') a
     obtain ⟨e1,e2⟩:=Ko1 l fr'
     obtain ⟨s1,s2⟩:=L.slots l.length (Nat.le_refl _)
     rw [L.fn] at s1 s2
     have hfm:=hf.mono hg.ext
     have hlook:∀ t,(∀ (i:Nat) d,l[i]?=some d→d.o.dst≠some t)→fr'.tm.get undef t=tm.get undef t:=by
      intro t ht
      rw [s2,hI.look]
      refine Qu0 fun j v hj hw=>?_
      obtain ⟨dj,hdj,_,hdst⟩:=Kg0 hw
      exact absurd hdst (ht j dj hdj)
     have hn':fr'.n=fr.n:=by rw [s1]
     have hlt:∀ t,fr.n≤t→∀ (i:Nat) d v,l[i]?=some d→K i=.val v→d.o.dst≠some t:=by
      intro t ht i d v hd hk hdst
      rcases (L.step i d hd).slots with ⟨q,_⟩ | ⟨v',_,hput⟩
      ·rcases q with q | ⟨_,_,q⟩ <;> rw [hk] at q <;> cases q
      ·have:=(Jb0 hput).2.2 t hdst
       rw [(L.slots i (Nat.le_of_lt (qd0 hd))).1] at this
       exact absurd this (Nat.not_lt.2 ht)
     have hout:∀ t,fr.n≤t→fr'.tm.get undef t=undef∨fr'.tm.get undef t=qz0:=by
      intro t ht
      simp only [s2]
      have:wr (zj0 l K) (fun _=>true) (fun t=>fr.tm.get undef t) t l.length=wr (zj0 l K) (fun j=>listed.getD j false) (fun t=>fr.tm.get undef t) t l.length:=Qu0 fun j v hj hw=>by
       obtain ⟨dj,hdj,hkj,hdst⟩:=Kg0 hw
       exact absurd hdst (hlt t ht j dj v hdj hkj)
      rw [this,← hI.look]
      exact hfm.slots.none t ht
     have hfn':fr'.fn=fr.fn:=by rw [s1]
     have hround:fr'.round=fr.round:=by rw [s1]
     have hmarks:fr'.marks=fr.marks:=by rw [s1]
     have hdefs:fr'.defers=fr.defers:=by rw [s1]
     rw [e1]
     refine ⟨hfm.fn.trans hfn'.symm,⟨hfm.slots.size.trans hn'.symm,fun t v hv=>?_,fun t ht=>?_⟩,by simp only;rw [hround];exact hfm.round,by simp only;rw [hmarks,hdefs];exact hfm.marks⟩
     ·simp only
      rcases e2 t with ⟨q1,q2⟩ | ⟨q,_⟩ | ⟨q1,q2⟩
      ·rw [q1,hlook t q2]
       exact hfm.slots.rel t v hv
      ·exact .inl q
      ·exfalso
       have h1:=yS0 hv
       have h2:a.tmps.size=fr.n:=hfm.slots.size
       rw [hn'] at q1
       exact absurd h1 (Nat.not_lt.2 (by rw [h2];exact q1))
     ·simp only
      have ht:fr'.n≤t:=ht
      have ht':fr.n≤t:=by rw [← hn'];exact ht
      rcases e2 t with ⟨q1,_⟩ | ⟨_,q⟩ | ⟨_,q2⟩
      ·rw [q1];exact hout t ht'
      ·exact absurd ht q
      ·rw [q2];exact hout t ht'
end
theorem Yy1 (hSn:Snd P E ih) {b:Frame} {k:List Item} {cs:List Frame} {ops:Array Oper} {id:Nat} {g:Gh} {h:Heap} {w:World} {fr:Fr} {a:Act} (hW:W B w0 g h w) (hG:GlobOk E.glob g.S) (hf:FrOk g b fr a) (hm:P.follows .mixedOrders=true) {l:List DOp} (hl:QF0 E ops.toList=some l) {fr':Fr} {h':Heap} {hps:List Hp} {rcs:List Rc} {pan:Option Pn} (hr:yJ0 P E ih ops.toList l fr h 0 [] [] none=.done fr' h' hps rcs pan) (hck':jo0 l=true∨CkP P E ih hps rcs) :
 CodeOk P B w0 g (lone (b.atR a (.code (.region id ops true)::k)) cs w) b k cs (Zw0 l fr' h' pan):=by
 have hS:=Yw1 hl
 obtain ⟨F,H,Q,K,L⟩:=Yn1 P E ih ops.toList l (fun d hd=>by
  obtain ⟨i,hi⟩:=List.getElem?_of_mem hd
  exact (hS.at_ i d hi).2.2.1) fr h 0 [] [] none fr' h' hps rcs pan hr
 refine .of_steps (.one stepR_region_draw) (Grown.refl _ _) ?_
 simp only [Region.schedule,hm,Bool.true_or,if_true]
 obtain ⟨c,h1,h2,h3,h4⟩:=jt1 l 0 (Nat.zero_le _)
 have hrep:∀ j,(Array.replicate ops.size false).getD j false=false:=fun j=>by
  rw [Array.getD_eq_getD_getElem?,Array.getElem?_replicate];split <;> rfl
 have hI:Inv l K (fun t=>fr.tm.get undef t) (fun j=>(Array.replicate ops.size false).getD j false) c fr.tm:=by
  refine ⟨fun i hi=>?_,fun i d j hi=>?_,fun i hi=>?_,h2,h3,fun j d hj hw=>?_,fun t=>?_⟩
  ·simp only [hrep] at hi;cases hi
  ·simp only [hrep] at hi;cases hi
  ·simp only [hrep] at hi;cases hi
  ·simp only [hrep]
   constructor
   ·intro e;cases e
   ·intro e;have:=h4 j d (Nat.zero_le _) e hj;rw [this] at hw;cases hw
  ·have:wr (zj0 l K) (fun j=>(Array.replicate ops.size false).getD j false) (fun t=>fr.tm.get undef t) t l.length=wr (zj0 l K) (fun _=>false) (fun t=>fr.tm.get undef t) t l.length:=Qu0 fun j v _ _=>hrep j
   rw [this]
   generalize l.length=n
   induction n with
   | zero=>rfl
   | succ n IH=>simp only [wr];exact IH
 have hWc:W B w0 g (H c) w:=by
  rw [L.still 0 c (Nat.zero_le _) h2 fun k d _ hk hd=>h4 k d (Nat.zero_le _) hk hd,L.h0];exact hW
 have:=YA1 hSn L hS hck' (b:=b) (k:=k) (cs:=cs) ops.size (w.tape w.drawn (.order b.fn id)) (Array.replicate ops.size false) c fr.tm g { w with drawn:=w.drawn+1 } a (by simp [hS.len]) (by
  have:=List.countP_le_length (p:=fun j=>!((Array.replicate ops.size false).getD j false)) (l:=List.range l.length)
  rw [List.length_range] at this
  rw [← hS.len];rw [hS.len] at this ⊢;exact this) hI (hWc.drew _) hG hf
 exact this
theorem Yz1 (hSn:Snd P E ih) {b:Frame} {k:List Item} {cs:List Frame} {ops:Array Oper} {id:Nat} {g:Gh} {h:Heap} {w:World} {fr:Fr} {a:Act} (hW:W B w0 g h w) (hG:GlobOk E.glob g.S) (hf:FrOk g b fr a) :
 CodeOk P B w0 g (lone (b.atR a (.code (.region id ops true)::k)) cs w) b k cs (Jj0 P E ih ops.toList fr h):=by
 unfold Jj0
 split
 ·trivial
 ·rename_i l hl
  obtain ⟨hm,hl⟩:=qf0 hl rfl
  unfold JN0
  split
  ·trivial
  ·rename_i fr' h' hps rcs pan hr
   cases hck:(jo0 l||QC0 P E ih hps rcs) with
   | false=>trivial
   | true =>
    change CodeOk P B w0 g _ b k cs (Zw0 l fr' h' pan)
    exact Yy1 hSn hW hG hf hm hl hr ((by simpa [Bool.or_eq_true] using hck:jo0 l=true∨QC0 P E ih hps rcs=true).imp (fun q=>q) CkP.of_all)
variable {P:Program} {E:Env} {ih:Task→Res} {B:Ns} {w0:World}
theorem zC2 {b:Frame} {a:Act} {k:List Item} {cs:List Frame} {w:World} {c:Code}:Go.step P (lone (b.atR a (.code (.scope c)::k)) cs w)=.next (lone (b.atR a (.code c::.inScope c::k)) cs w) :=
 step_lone_go (by simp [stepG,stepG.exec,Frame.atR])
theorem zB2 {b:Frame} {a:Act} {k:List Item} {cs:List Frame} {w:World} {c:Code}:Go.step P (lone (b.atR a (.inScope c::k)) cs w)=.next (lone (b.atR a k) cs w) :=
 step_lone_go (by simp [stepG,stepG.exec,Frame.atR])
def qv1 (next:Fr→Heap→Res) (r:Res):Res :=
 match r with
 | .code e fr h=>(match e with
  | .normal=>next fr h
  | _=>.code e fr h)
 | r=>r
theorem qQ2 (c:Code) (r:Res):Qp0 ih c r=qv1 (fun fr h=>ih (.code c fr h)) r:=by
 cases r with
 | code e fr h=>cases e <;> rfl
 | _=>rfl
theorem ya2 (r:Res):qv1 (fun fr h=>.code .normal fr h) r=r:=by
 cases r with
 | code e fr h=>cases e <;> rfl
 | _=>rfl
theorem CodeOk.pass {g:Gh} {m:Machine} {b:Frame} {x:Item} {k:List Item} {cs:List Frame} {r:Res} (hx:∀ id,exitTo id (x::k)=exitTo id k) (h:CodeOk P B w0 g m b (x::k) cs r)
 (next:Fr→Heap→Res) (hn:∀ g' a w fr h',Grown B g g'→W B w0 g' h' w→FrOk g' b fr a→CodeOk P B w0 g' (lone (b.atR a (x::k)) cs w) b k cs (next fr h')) :
 CodeOk P B w0 g m b k cs (qv1 next r):=by
 cases r with
 | code e fr h' =>
  obtain ⟨g',a,w,hg,hW,hf,hA⟩:=h
  cases e with
  | normal=>exact .of_steps hA hg (hn g' a w fr h' hg hW hf)
  | exit id=>obtain ⟨todo,h1,h2⟩:=hA;exact ⟨g',a,w,hg,hW,hf,todo,h1.trans (hx id),h2⟩
  | goto l=>exact hA.elim
  | ret=>exact ⟨g',a,w,hg,hW,hf,hA⟩
  | panic y=>exact ⟨g',a,w,hg,hW,hf,hA⟩
 | none _ _=>trivial
 | ret _ _=>exact h
 | panic _ _=>exact h
 | dret _ _=>exact h
theorem XP0 {g:Gh} {m:Machine} {b:Frame} {x:Item} {k:List Item} {cs:List Frame} {r:Res} {c:Code} (hx:∀ id,exitTo id (x::k)=exitTo id k) (h:CodeOk P B w0 g m b (x::k) cs r)
 (hn:∀ g' a w fr h',Grown B g g'→W B w0 g' h' w→FrOk g' b fr a→CodeOk P B w0 g' (lone (b.atR a (x::k)) cs w) b k cs (ih (.code c fr h'))):CodeOk P B w0 g m b k cs (Qp0 ih c r):=by
 rw [qQ2]
 exact CodeOk.pass hx h _ hn
theorem qP2 {g:Gh} {m:Machine} {b:Frame} {id:Nat} {k:List Item} {cs:List Frame} {r:Res} (h:CodeOk P B w0 g m b (.inBlock id::k) cs r):CodeOk P B w0 g m b k cs (Jf0 id r):=by
 cases r with
 | code e fr h' =>
  obtain ⟨g',a,w,hg,hW,hf,hA⟩:=h
  cases e with
  | normal=>exact ⟨g',a,w,hg,hW,hf,Steps.trans hA (.one stepR_inBlock)⟩
  | exit id' =>
   obtain ⟨todo,h1,h2⟩:=hA
   unfold Jf0
   simp only
   cases hb:Nat.beq id' id with
   | true =>
    rw [Nat.beq_eq] at hb;subst hb
    have h3:exitTo id' todo=some k:=by rw [h1];simp [exitTo]
    exact ⟨g',a,w,hg,hW,hf,h2.trans (.one (stepR_exit h3))⟩
   | false =>
    have hne:(id == id')=false:=by
     simp only [beq_eq_false_iff_ne,ne_eq]
     intro e;subst e;simp at hb
    exact ⟨g',a,w,hg,hW,hf,todo,by rw [h1];simp [exitTo,hne],h2⟩
  | goto l=>exact hA.elim
  | ret=>exact ⟨g',a,w,hg,hW,hf,hA⟩
  | panic y=>exact ⟨g',a,w,hg,hW,hf,hA⟩
 | none _ _=>trivial
 | ret _ _=>exact h
 | panic _ _=>exact h
 | dret _ _=>exact h
theorem W.setLoop {g:Gh} {h:Heap} {w:World} (hW:W B w0 g h w) {l b fn n d:Nat} {k:Nat×Nat} {st st':LoopState} {pe pe':Option Code} {tm:T V} {ps:List Tmp} {as bd:Code} (hv:g.vr l=none) (hm:g.mu l=some (b,k)) (hg:h.get l=.loop st pe fn n tm ps as bd d) :
 ∃ L:Loop,w.heap[b]?=some (.loop L)∧L.state=st∧L.pending=pe∧W B w0 g (h.set l (.loop st' pe' fn n tm ps as bd d)) (w.putObj b (.loop { L with state:=st',pending:=pe' })):=by
 have hobj:=hW.obj l _ hm
 rw [hg] at hobj
 obtain ⟨hz,L,h1,h2,h3,h4,h5,h6,h7,h8,h9,h10,k',h11⟩:=hobj
 refine ⟨L,h1,h2,h3,?_⟩
 exact hW.setObj (x:=(b,k)) (o:=.loop { L with state:=st',pending:=pe' }) hm hv rfl ⟨hz,_,yt0 w b _ (zJ0 h1),rfl,rfl,h4,h5,h6,h7,h8,h9,h10,k',h11⟩ (Xu0 hW.shut h1 (fun _ _ _ e=>by cases e) (fun _ _ e=>by cases e))
def Zk0 (f:Operand) (l:Nat):Call:={ callee:=.value f,args:=#[.const (.func (.yield l) #[] #[])],argTypes:=#[] }
theorem zE2 {b:Frame} {a:Act} {k:List Item} {cs:List Frame} {w w1 w2:World} {f:Operand} {ps:Array Tmp} {as bd:Code} {l:Nat} {mark:List Deferred} {v:Value}
 (he:(Instr.enterLoop b.fn a.tmps ps as bd b.roundOf).run P w=.ok (l,mark) w1) (hs:(do let d ← resolve a.eval (Zk0 f l) 0;invoke d.target d.args:Sem Next).run P w1=.ok (.value v) w2) :
 Go.step P (lone (b.atR a (.code (.rangeFunc f ps as bd)::k)) cs w)=.next (lone (b.atR { a with defers:=mark++a.defers } (.endRangeFunc l::k)) cs w2):=by
 have hev:({ fn:=b.fn,tmps:=a.tmps,todo:=.inRangeFunc l::k,defers:=mark++a.defers,mode:=.run,kind:=b.kind,roundOf:=b.roundOf }:Frame).eval=a.eval:=by funext x;cases x <;> rfl
 refine step_lone_go ?_
 simp only [Zk0] at hs
 simp only [stepG,stepG.exec,Frame.atR,Sem.runT_eq,he,stepG.apply,hev,hs,if_true]
 simp [Frame.finish]
theorem QA1 {b:Frame} {a:Act} {k:List Item} {cs:List Frame} {w w1 w2:World} {f:Operand} {ps:Array Tmp} {as bd:Code} {l:Nat} {mark:List Deferred} {q:FuncId} {us:Array Value}
 (he:(Instr.enterLoop b.fn a.tmps ps as bd b.roundOf).run P w=.ok (l,mark) w1) (hs:(do let d ← resolve a.eval (Zk0 f l) 0;invoke d.target d.args:Sem Next).run P w1=.ok (.enter q us) w2) :
 Go.step P (lone (b.atR a (.code (.rangeFunc f ps as bd)::k)) cs w)=.next (lone (Frame.enter P q us .normal) (b.atR { a with defers:=mark++a.defers } (.inRangeFunc l::k)::cs) w2):=by
 have hev:({ fn:=b.fn,tmps:=a.tmps,todo:=.inRangeFunc l::k,defers:=mark++a.defers,mode:=.run,kind:=b.kind,roundOf:=b.roundOf }:Frame).eval=a.eval:=by funext x;cases x <;> rfl
 refine step_lone_go ?_
 simp only [Zk0] at hs
 simp only [stepG,stepG.exec,Frame.atR,Sem.runT_eq,he,stepG.apply,hev,hs,if_true]
 simp
theorem Qz1 {b:Frame} {a:Act} {k:List Item} {cs:List Frame} {w w1:World} {l:Nat} {j:Option Code} (he:(Instr.endLoop l).run P w=.ok j w1) :
 Go.step P (lone (b.atR a (.endRangeFunc l::k)) cs w)=.next (lone (b.atR a ((j.map Item.code).toList++k)) cs w1):=by
 refine step_lone_go ?_
 simp [stepG,stepG.exec,Frame.atR,Sem.runT_eq,he]
theorem qk2 (hI:Snd P E ih) {g:Gh} {h:Heap} {w:World} {f:Operand} {ps:Array Tmp} {as bd:Code} {fr:Fr} {a:Act} {b:Frame} {k:List Item} {cs:List Frame} (hW:W B w0 g h w) (hG:GlobOk E.glob g.S) (hf:FrOk g b fr a) :
 CodeOk P B w0 g (lone (b.atR a (.code (.rangeFunc f ps as bd)::k)) cs w) b k cs (Jk0 P E ih f ps as bd fr h):=by
 unfold Jk0
 split
 ·trivial
 ·rename_i fv hfv
  split
  ·trivial
  ·rename_i d marks h1 hd
   have hround:fr.round=none:=by
    cases hr:fr.round with
    | none=>rfl
    | some l=>unfold Zu0 at hd;rw [hr] at hd;cases hd
   have hro:b.roundOf=none:=by have:=hf.round;rw [hround] at this;exact this
   have hdf:fr.defers=[]:=by
    unfold Zu0 at hd
    rw [hround] at hd
    cases hq:fr.defers with
    | nil=>rfl
    | cons _ _=>rw [hq] at hd;cases hd
   have hmk0:=hf.marks
   rw [hdf] at hmk0
   have hmk0:=hmk0.marks
   unfold Zu0 at hd
   rw [hround,hdf] at hd
   cases hd
   let o1:Go.Obj:=.deferred (some [])
   let L:Loop:={ state:=.ready,pending:=none,fn:=b.fn,tmps:=a.tmps,params:=ps,assign:=as,body:=bd,defers:=w.heap.size }
   let w1:World:={ w with heap:=w.heap.push o1 }
   let w2:World:={ w1 with heap:=w1.heap.push (.loop L) }
   let g1:=g.new h.n (w.heap.size,0,0) none
   have hW1:W B w0 g1 (h.new .defs) w1:=hW.alloc o1 .defs 0 0 (jl0 w _)
   have hn1:(h.new .defs).n=h.n+1:=Heap.n_new _ _
   let g2:=g1.new (h.new .defs).n (w1.heap.size,0,0) none
   have hx1:Grown B g g1:=Grown.new hW _ _
   have hx2:Grown B g1 g2:=Grown.new hW1 _ _
   have hgg:=hx1.trans hx2
   have hdv:g2.vr h.n=none∧g2.mu h.n=some (w.heap.size,0,0):=by
    have:¬ h.n=h.n+1:=by omega
    simp [g2,g1,Gh.new,hn1]
   have hlv:g2.vr (h.new .defs).n=none∧g2.mu (h.new .defs).n=some (w1.heap.size,0,0):=by simp [g2,Gh.new]
   have hW2:W B w0 g2 ((h.new .defs).new (.loop .ready none fr.fn fr.n fr.tm ps.toList as bd h.n)) w2:=by
    refine hW1.alloc (.loop L) (.loop .ready none fr.fn fr.n fr.tm ps.toList as bd h.n) 0 0 ?_
    exact ⟨hf.slots.none,L,jl0 w1 _,rfl,rfl,hf.fn,hf.slots.size,fun i v hv=>(hf.slots.rel i v hv).imp id fun q=>q.mono hgg.ext,rfl,rfl,rfl,hdv.1,_,hdv.2⟩
   have henter:(Instr.enterLoop b.fn a.tmps ps as bd b.roundOf).run P w=.ok (w1.heap.size,[{ target:=.collected w.heap.size,args:=#[] }]) w2:=by
    rw [hro,run_enterLoop_outer]
    have:w1.heap.size=w.heap.size+1:=by simp [w1]
    rw [this];rfl
   have hfR:R g2 (a.eval f) fv:=(qD0 hf.slots hG hfv).mono hgg.ext
   have hargs:Rs' g2 #[.func (.yield w1.heap.size) #[] #[]] [.func (.yield (h.new .defs).n) [] []]:=⟨rfl,fun i v x hv hx=>by
    cases i with
    | zero=>cases hv;cases hx;exact .yield hlv.1 hlv.2
    | succ i=>simp at hv⟩
   have hgood:=zc1 (P:=P) hW2 hfR hargs
   have hgood':qw0 P B w0 g2 ((do let d ← resolve a.eval (Zk0 f w1.heap.size) 0;invoke d.target d.args:Sem Next).run P w2) (jL0 P ((h.new .defs).new (.loop .ready none fr.fn fr.n fr.tm ps.toList as bd h.n)) fv [.func (.yield (h.new .defs).n) [] []]):=by
    have e:resolve a.eval (Zk0 f w1.heap.size) 0=Deferred.ofValue (a.eval f) #[.func (.yield w1.heap.size) #[] #[]]:=by simp [resolve,Zk0,Act.eval]
    rw [e];exact hgood
   split
   ·rename_i q args h2 hcall
    rw [hcall] at hgood'
    obtain ⟨us,w3,g3,e,hg3,hW3,hs3⟩:=hgood'
    have hg03:=hgg.trans hg3
    cases hsh:E.shared q with
    | false=>trivial
    | true =>
     simp only [cond_true]
     have hfr:∀ {g':Gh},Grown B g3 g'→FrOk g' b { fr with marks:=h.n::fr.marks } { a with defers:=[{ target:=.collected w.heap.size,args:=#[] }]++a.defers }:=fun hg'=>by
      have hall:=hg03.trans hg'
      have hm:=(hg3.trans hg').ext.obj _ _ hdv.1 hdv.2
      have hmk:=hmk0.mono hall.ext
      refine ⟨hf.fn,hf.slots.mono hall.ext,hf.round.mono hall.ext,.inl ⟨hdf,by simp [hmk.1],fun i d m p q=>?_⟩⟩
      cases i with
      | zero=>cases p;cases q;exact ⟨_,_,rfl,hm.1,hm.2⟩
      | succ i=>exact hmk.2 i d m (by simpa using p) (by simpa using q)
     have hc:=hI.call (b.atR { a with defers:=[{ target:=.collected w.heap.size,args:=#[] }]++a.defers } (.inRangeFunc w1.heap.size::k)::cs) q args us hW3 (hG.mono hg03.ext.S) hs3
     cases hr:ih (.call q args h2) with
     | code _ _ _=>rw [hr] at hc;exact hc.elim
     | dret _ _=>rw [hr] at hc;exact hc.elim
     | none _ _=>trivial
     | panic y h4 =>
      rw [hr] at hc
      obtain ⟨g4,w4,v,hg4,hW4,hR4,he,frx,s1,_,s2⟩:=hc
      refine ⟨g4,_,w4,hg03.trans hg4,hW4,(hfr hg4).weak,v,.inRangeFunc w1.heap.size::k,hR4,.head (QA1 henter (e.trans he)) (s1.trans (.one ?_))⟩
      exact step_leave_panicked s2
     | ret y h4 =>
      rw [hr] at hc
      obtain ⟨g4,w4,v,hg4,hW4,hR4,hret⟩:=hc
      have hst:Steps P (lone (b.atR a (.code (.rangeFunc f ps as bd)::k)) cs w) (lone (b.atR { a with defers:=[{ target:=.collected w.heap.size,args:=#[] }]++a.defers } (.endRangeFunc w1.heap.size::k)) cs w4):=by
       rcases hret with hv | ⟨he,frx,s1,_,s2⟩
       ·exact .one (zE2 henter (e.trans hv))
       ·exact .head (QA1 henter (e.trans he)) (s1.trans (.one (step_leave_returned s2)))
      obtain ⟨hlv4,hlm4⟩:=(hg3.trans hg4).ext.obj _ _ hlv.1 hlv.2
      unfold endLoop
      simp only
      split
      ·rename_i st pe fn n tm ps' as' bd' d' hget
       obtain ⟨L4,q1,q2,q3,hW5⟩:=W.setLoop (st':=.exhausted) (pe':=pe) hW4 hlv4 hlm4 hget
       have hend:st≠.busy→(Instr.endLoop w1.heap.size).run P w4=.ok pe (w4.putObj w1.heap.size (.loop { L4 with state:=.exhausted,pending:=pe })):=fun hb=>by
        have:=run_endLoop (P:=P) q1 (by rw [q2];exact hb)
        rw [q3] at this;exact this
       cases pe with
       | none =>
        have fin:st≠.busy→CodeOk P B w0 g (lone (b.atR a (.code (.rangeFunc f ps as bd)::k)) cs w) b k cs (.code .normal { fr with marks:=h.n::fr.marks } (h4.set (h.new .defs).n (.loop .exhausted none fn n tm ps' as' bd' d'))):=fun hb =>
         ⟨g4,_,_,hg03.trans hg4,hW5,hfr hg4,hst.trans (.one (Qz1 (hend hb)))⟩
        cases st with
        | busy=>trivial
        | ready=>exact fin (by simp)
        | done=>exact fin (by simp)
        | exhausted=>exact fin (by simp)
       | some c =>
        have fin:st≠.busy→CodeOk P B w0 g (lone (b.atR a (.code (.rangeFunc f ps as bd)::k)) cs w) b k cs (ih (.code c { fr with marks:=h.n::fr.marks } (h4.set (h.new .defs).n (.loop .exhausted (some c) fn n tm ps' as' bd' d')))):=fun hb =>
         .of_steps (hst.trans (.one (Qz1 (hend hb)))) (hg03.trans hg4) (hI.code c _ _ b k cs hW5 (hG.mono (hg03.trans hg4).ext.S) (hfr hg4))
        cases st with
        | busy=>trivial
        | ready=>exact fin (by simp)
        | done=>exact fin (by simp)
        | exhausted=>exact fin (by simp)
      ·trivial
   ·trivial
theorem JI0 (hI:Snd P E ih) {g:Gh} {h:Heap} {w:World} (c:Code) (fr:Fr) (a:Act) (b:Frame) (k:List Item) (cs:List Frame) (hW:W B w0 g h w) (hG:GlobOk E.glob g.S) (hf:FrOk g b fr a) :
 CodeOk P B w0 g (lone (b.atR a (.code c::k)) cs w) b k cs (ql1 P E ih c fr h):=by
 cases c with
 | skip=>exact ⟨g,a,w,Grown.refl _ _,hW,hf,.one stepR_skip⟩
 | region id ops draw =>
  cases draw with
  | true=>exact Yz1 hI hW hG hf
  | false=>exact qu2 hI hW hG hf
 | seq x y =>
  refine .of_steps (.one stepR_seq) (Grown.refl _ _) ?_
  exact XP0 (fun _=>rfl) (hI.code x fr a b (.code y::k) cs hW hG hf) fun g' a' w' fr' h' hg hW' hf'=>hI.code y fr' a' b k cs hW' (hG.mono hg.ext.S) hf'
 | cond x y z =>
  show CodeOk P B w0 g _ b k cs (Jh0 E ih x y z fr h)
  unfold Jh0
  split
  ·rename_i t ht
   have hv:=(qD0 hf.slots hG ht).bool_inv
   refine .of_steps (.one (stepR_cond hv)) (Grown.refl _ _) ?_
   cases t with
   | true=>exact hI.code y fr a b k cs hW hG hf
   | false=>exact hI.code z fr a b k cs hW hG hf
  ·trivial
 | block id x =>
  refine .of_steps (.one stepR_block) (Grown.refl _ _) ?_
  exact qP2 (hI.code x fr a b (.inBlock id::k) cs hW hG hf)
 | loop x =>
  refine .of_steps (.one stepR_loop) (Grown.refl _ _) ?_
  exact XP0 (fun _=>rfl) (hI.code x fr a b (.inLoop x::k) cs hW hG hf) fun g' a' w' fr' h' hg hW' hf'=>hI.loop x fr' a' b k cs hW' (hG.mono hg.ext.S) hf'
 | rangeFunc f ps as bd=>exact qk2 hI hW hG hf
 | exit id=>exact ⟨g,a,w,Grown.refl _ _,hW,hf,k,rfl,Steps.refl _ _⟩
 | scope x =>
  refine .of_steps (.one zC2) (Grown.refl _ _) ?_
  have h1:=hI.code x fr a b (.inScope x::k) cs hW hG hf
  have:=CodeOk.pass (P:=P) (x:=.inScope x) (k:=k) (fun _=>rfl) h1 (fun fr h=>.code .normal fr h) (fun g' a' w' fr' h' hg hW' hf'=>⟨g',a',w',Grown.refl _ _,hW',hf',.one zB2⟩)
  rw [ya2] at this
  exact this
 | label l=>exact ⟨g,a,w,Grown.refl _ _,hW,hf,.one stepR_label⟩
 | goto l=>trivial
 | ret=>exact ⟨g,a,w,Grown.refl _ _,hW,hf,k,Steps.refl _ _⟩
 | refuse s=>trivial
theorem jf1 (hI:Snd P E ih) {g:Gh} {h:Heap} {w:World} (c:Code) (fr:Fr) (a:Act) (b:Frame) (k:List Item) (cs:List Frame) (hW:W B w0 g h w) (hG:GlobOk E.glob g.S) (hf:FrOk g b fr a) :
 CodeOk P B w0 g (lone (b.atR a (.inLoop c::k)) cs w) b k cs (ql1 P E ih (.loop c) fr h):=by
 refine .of_steps (.one stepR_inLoop) (Grown.refl _ _) ?_
 exact XP0 (fun _=>rfl) (hI.code c fr a b (.inLoop c::k) cs hW hG hf) fun g' a' w' fr' h' hg hW' hf'=>hI.loop c fr' a' b k cs hW' (hG.mono hg.ext.S) hf'
variable {P:Program} {E:Env} {ih:Task→Res} {B:Ns} {w0:World}
theorem qK1 (l:List V):∀ (i:Nat) (t:T V) (j:Nat),(yg0 l i t).get undef j=if i≤j∧j<i+l.length then l.getD (j-i) undef else t.get undef j:=by
 induction l with
 | nil =>
  intro i t j
  have:¬ (i≤j∧j<i+([]:List V).length):=by simp only [List.length_nil];omega
  rw [if_neg this];rfl
 | cons v l IH =>
  intro i t j
  change (yg0 l (i+1) (t.set undef v i)).get undef j=_
  rw [IH,T.get_set]
  simp only [List.length_cons]
  by_cases h1:i+1≤j∧j<i+1+l.length
  ·rw [if_pos h1,if_pos (by omega)]
   rw [show j-i=(j-(i+1))+1 by omega];rfl
  ·rw [if_neg h1]
   by_cases h2:i=j
   ·subst h2
    rw [if_pos (by omega),Nat.sub_self]
    simp
   ·have h3:¬ j=i:=fun e=>h2 e.symm
    rw [if_neg (by first | exact h2 | exact h3),if_neg (by omega)]
theorem ys1 (k:Nat):∀ j,(zX0 k).get undef j=undef:=by
 induction k with
 | zero=>intro j;rfl
 | succ k IH =>
  intro j
  cases j with
  | zero=>rfl
  | succ j =>
   change T.pick j (fun i=>(zX0 k).get undef i) (fun i=>(zX0 k).get undef i)=undef
   unfold T.pick
   cases Nat.beq (Nat.mod j 2) 0 <;> exact IH _
theorem zs1 {g:Gh} {us:Array Value} {args:List V} {n k:Nat} (hs:Rs' g us args) (hn:args.length≤n):Slots g n (yg0 args 0 (zX0 k)) (us++Array.replicate (n-us.size) Go.undef) where
 size:=by simp [hs.1];omega
 rel:=fun i v hv=>by
  rw [qK1,ys1]
  rw [Array.getElem?_append] at hv
  rw [hs.1] at hv
  split at hv
  ·rename_i hi
   rw [if_pos (by omega)]
   obtain ⟨y,hy⟩:=qr0 args i hi
   simp only [Nat.sub_zero,List.getD_eq_getElem?_getD,hy,Option.getD_some]
   exact .inr (hs.2 i v y hv hy)
  ·rename_i hi
   rw [if_neg (by omega)]
   rw [Array.getElem?_replicate] at hv
   split at hv
   ·cases hv;exact .inr .undef
   ·cases hv
 none:=fun i hi=>.inl (by rw [qK1,ys1,if_neg (by omega)])
theorem zD2 {fr:Frame} {cs:List Frame} {w w':World} {r:Nat} {ds:List Deferred} (hm:fr.mode≠.run) (hd:fr.defers={ target:=.collected r,args:=#[] }::ds) (hk:(Instr.takeDeferred r).run P w=.ok [] w') :
 Go.step P (lone fr cs w)=.next (lone { fr with defers:=ds } cs w'):=by
 refine step_lone_go ?_
 cases hmode:fr.mode with
 | run=>exact absurd hmode hm
 | returning=>simp [stepG,unwind,hmode,hd,Sem.runT_eq,hk]
 | panicking chain=>simp [stepG,unwind,hmode,hd,Sem.runT_eq,hk]
theorem XS1 {g:Gh} (ms:List Nat):∀ (ds:List Deferred) (fr:Frame) (cs:List Frame) (h h':Heap) (w:World),fr.mode≠.run→fr.defers=ds→MarksOk g ds ms→W B w0 g h w→ZJ0 ms h=some h' →
 ∃ w',Steps P (lone fr cs w) (lone { fr with defers:=[] } cs w')∧W B w0 g h' w':=by
 induction ms with
 | nil =>
  intro ds fr cs h h' w _ hd hM hW hk
  cases hk
  have:ds=[]:=by have:=hM.1;simpa using this
  subst this
  exact ⟨w,by rw [← hd];exact Steps.refl _ _,hW⟩
 | cons m ms IH =>
  intro ds fr cs h h' w hm hd hM hW hk
  cases ds with
  | nil=>have:=hM.1;simp at this
  | cons d ds =>
   obtain ⟨b,k,rfl,hv,hmu⟩:=hM.2 0 d m rfl rfl
   change (match h.get m with | .defs=>ZJ0 ms (h.set m .dead) | _=>.none)=some h' at hk
   split at hk
   ·rename_i ho
    have hobj:=hW.obj m _ hmu
    rw [ho] at hobj
    have hobj:w.heap[b]?=some (.deferred (some [])):=hobj
    have htake:=run_takeDeferred (P:=P) hobj
    have hW':W B w0 g (h.set m .dead) (blk w b (.deferred none)):=hW.setObj (x:=(b,k)) hmu hv rfl trivial (Xu0 hW.shut hobj (fun _ _ _ e=>by cases e) (fun _ _ e=>by cases e))
    obtain ⟨w',h1,h2⟩:=IH ds { fr with defers:=ds } cs _ h' _ hm rfl ⟨by simpa using hM.1,fun i d m a c=>hM.2 (i+1) d m (by simpa using a) (by simpa using c)⟩ hW' hk
    exact ⟨w',.head (zD2 hm hd htake) h1,h2⟩
   ·cases hk
theorem Ky1 {α:Type} {w:World} {g:Gh} (F:α→Sem Value) (f:α→Option V) (hF:∀ x y,f x=some y→∃ v,(F x).run P w=.ok v w∧R g v y) (l:List α) :
 ∀ ys:List V,l.length=ys.length→(∀ (i:Nat) x,l[i]?=some x→∃ y,ys[i]?=some y∧f x=some y)→∃ vs:List Value,(l.mapM F).run P w=.ok vs w∧Rs' g vs.toArray ys:=by
 induction l with
 | nil =>
  intro ys hl _
  cases ys with
  | nil=>exact ⟨[],by simp,Rs'.nil⟩
  | cons _ _=>simp at hl
 | cons x l IH =>
  intro ys hl hg
  obtain ⟨y,hy,hfy⟩:=hg 0 x rfl
  cases ys with
  | nil=>simp at hl
  | cons y' ys =>
   cases hy
   obtain ⟨v,h1,h2⟩:=hF x y hfy
   obtain ⟨vs,h3,h4⟩:=IH ys (by simpa using hl) (fun i x p=>by
    obtain ⟨y,q,r⟩:=hg (i+1) x (by simpa using p)
    exact ⟨y,by simpa using q,r⟩)
   refine ⟨v::vs,?_,?_⟩
   ·rw [List.mapM_cons]
    simp only [Sem.run_bind,h1,Result.andThen_ok,h3,Sem.run_pure]
   ·refine ⟨by simpa using h4.1,fun i a b p q=>?_⟩
    cases i with
    | zero=>simp at p q;subst p;subst q;exact h2
    | succ i=>exact h4.2 i a b (by simpa using p) (by simpa using q)
def XL0 (tmps:Array Value):ResultVar→Sem Value
 | .tmp t=>pure (tmps.getD t Go.undef)
 | .cell a t=>do loadVar t (← asAddr (tmps.getD a Go.undef))
theorem qO2 {w:World} {tmps:Array Value} {a:Tmp} {t:TypeId} {v:Value} (h:(Instr.loadAt t (tmps.getD a Go.undef)).run P w=.ok v w):(XL0 tmps (.cell a t)).run P w=.ok v w:=by
 have key:∀ q:Value,(Instr.loadAt t q).run P w=.ok v w→(do loadVar t (← asAddr q):Sem Value).run P w=.ok v w:=by
  intro q h
  simp only [Instr.loadAt,Sem.run_bind] at h ⊢
  cases q with
  | pointer o =>
   cases o with
   | some ad=>exact h
   | none=>simp [Instr.sureAddr,stuck] at h
  | _=>simp [Instr.sureAddr,stuck] at h
 exact key _ h
theorem SlotsP.get {g:Gh} {n:Nat} {tm:T V} {tmps:Array Value} (h:SlotsP g n tm tmps) (t:Nat):tm.get undef t=qz0∨R g (tmps.getD t Go.undef) (tm.get undef t):=by
 rcases Nat.lt_or_ge t tmps.size with q | q
 ·obtain ⟨v,hv⟩:=zy0 tmps t q
  rw [yN0 hv]
  exact h.rel t v hv
 ·have e:tmps.getD t Go.undef=Go.undef:=by rw [Array.getD_eq_getD_getElem?,Array.getElem?_eq_none q];rfl
  rcases h.none t (by rw [← h.size];exact q) with e1 | e1
  ·rw [e,e1];exact .inr R.undef
  ·exact .inl e1
theorem qx2 {g:Gh} {h:Heap} {w:World} (hW:W B w0 g h w) {fn:Func} {fr:Fr} {tmps:Array Value} (hs:SlotsP g fr.n fr.tm tmps) {y:V} (hr:results P fn fr h=some y):∃ v,(Go.results fn tmps).run P w=.ok v w∧R g v y:=by
 unfold results at hr
 have key:∀ ys,qc0 (GW0 P fr h) fn.results.toList=some ys→∃ vs:Array Value,(fn.results.mapM (XL0 tmps)).run P w=.ok vs w∧Rs' g vs ys:=by
  intro ys hys
  obtain ⟨p1,p2⟩:=zH0 hys
  obtain ⟨vs,h1,h2⟩:=Ky1 (P:=P) (w:=w) (g:=g) (XL0 tmps) (GW0 P fr h) (fun x y hxy=>by
   cases x with
   | tmp t =>
    obtain ⟨rfl,hn⟩:=jv1 hxy
    exact ⟨_,rfl,(hs.get t).resolve_left hn⟩
   | cell a t =>
    have hxy:load P h t (fr.tm.get undef a)=some y:=hxy
    rcases hs.get a with e | hR
    ·rw [e] at hxy;cases hxy
    ·obtain ⟨v,h1,h2⟩:=ja1 (P:=P) hW hR hxy
     exact ⟨v,qO2 h1,h2⟩) fn.results.toList ys (by simpa using p1.symm) p2
  refine ⟨vs.toArray,?_,h2⟩
  rw [Array.mapM_eq_mapM_toList]
  simp only [Sem.run_map,h1,Result.andThen_ok]
 have hres:Go.results fn tmps=(do let vs ← fn.results.mapM (XL0 tmps);pure (if h:vs.size=1 then vs[0] else .tuple vs)):=by
  unfold Go.results
  congr 1
 rw [hres]
 split at hr
 ·rename_i v hv
  cases hr
  obtain ⟨vs,h1,h2⟩:=key _ hv
  have hsz:vs.size=1:=by rw [h2.1];rfl
  obtain ⟨u,hu⟩:=zy0 vs 0 (by omega)
  refine ⟨u,?_,h2.2 0 u y hu rfl⟩
  simp only [Sem.run_bind]
  rw [h1]
  simp only [Result.andThen_ok,Sem.run_pure,dif_pos hsz]
  congr 1
  rw [Array.getElem?_eq_getElem (by omega)] at hu
  simpa using hu
 ·rename_i vs' hne hv
  cases hr
  obtain ⟨vs,h1,h2⟩:=key _ hv
  have hsz:vs.size≠1:=by
   rw [h2.1]
   intro e
   match vs',e with
   | [v],_=>exact hne v rfl
  refine ⟨.tuple vs,?_,.tup h2.1 h2.2⟩
  simp only [Sem.run_bind]
  rw [h1]
  simp only [Result.andThen_ok,Sem.run_pure,dif_neg hsz]
 ·cases hr
def yq0 (P : Program) : Prop := ∀ (f : FuncId) (fn : Func), P.funcs[f]? = some fn → fn.body.isSome = true → fn.name ≠ "runtime.NumGoroutine"
theorem qf1 (hN:yq0 P) {f:FuncId} {fn:Func} {body:Code} {us:Array Value} {w:World} (hf:P.funcs[f]?=some fn) (hb:fn.body=some body):(callFunc f us).run P w=.ok (.enter f us) w:=by
 have h1:=hN f fn hf (by rw [hb];rfl)
 have h2 : (fn.name == "runtime.NumGoroutine") = false := by simpa using h1
 simp [callFunc,hf,h1,hb]
theorem Qe1 (hI:Snd P E ih) {f:FuncId} {fn:Func} (hfn:P.funcs[f]?=some fn) {fr:Fr} {us:Array Value} {g0:Gh} {w00:World} {start:Machine} {cs:List Frame} (hcall:(callFunc f us).run P w00=.ok (.enter f us) w00) (hstart:start=lone (Frame.enter P f us .normal) cs w00) (fs:List (FuncId×List V)) :
 ∀ (ds:List Deferred) (p:Option V) (g:Gh) (h:Heap) (w:World) (c:Frame),c.fn=f→c.kind=.normal→c.defers=ds→SlotsP g fr.n fr.tm c.tmps→DCalls g ds fs→Yl0 g c.mode p→Grown B g0 g→W B w0 g h w→GlobOk E.glob g.S →
  Steps P start (lone c cs w)→CallOk P B w0 g0 cs f us w00 (Jd0 P ih f fn fr fs p h):=by
 subst hstart
 induction fs with
 | nil =>
  intro ds p g h w c hcf hck hcd hs hD hp hg hW hG hst
  have hds:ds=[]:=by have:=hD.1;simpa using this
  subst hds
  change CallOk P B w0 g0 cs f us w00 (JQ0 P f fn fr p h)
  unfold JQ0
  cases p with
  | none =>
   simp only
   cases hres:AM.results P fn fr h with
   | none=>trivial
   | some y =>
    obtain ⟨v,h5,h6⟩:=qx2 hW hs hres
    exact ⟨g,w,v,hg,hW,h6,.inr ⟨hcall,c,hst,hcf,hp,hcd,hck,fn,by rw [hcf];exact hfn,h5⟩⟩
  | some y =>
   obtain ⟨v,hm,hR⟩:=hp
   exact ⟨g,w,v,hg,hW,hR,hcall,c,hst,hcf,hm,hcd,fn,by rw [hcf];exact hfn⟩
 | cons q fs IH =>
  intro ds p g h w c hcf hck hcd hs hD hp hg hW hG hst
  cases ds with
  | nil=>have:=hD.1;simp at this
  | cons d ds =>
   obtain ⟨vs,cap,rfl,hR⟩:=hD.2 0 d q rfl rfl
   have hrun:c.mode≠.run:=by
    cases p with
    | none=>rw [hp];simp
    | some y=>obtain ⟨v,hm,_⟩:=hp;rw [hm];simp
   change CallOk P B w0 g0 cs f us w00 (match ih (.dcall q.1 q.2 p h) with
    | .dret _ h'=>Jd0 P ih f fn fr fs .none h'
    | .none a b=>.none a b
    | _=>.none f .none)
   have hd:=hI.dcall { c with defers:=ds } cs q.1 q.2 (vs++cap) p hW hG hR hp
   cases hr:ih (.dcall q.1 q.2 p h) with
   | dret did h' =>
    rw [hr] at hd
    obtain ⟨g',w',hg',hW',hent,hst'⟩:=hd
    have hstep:=step_defer (P:=P) (fr:=c) (cs:=cs) (w:=w) (ds:=ds) (fv:=.func q.1) (cap:=cap) (f:=q.1) (args:=vs++cap) hrun hcd rfl (by
     have:(invoke (.fn (.func q.1) cap) vs).run P w=(callFunc q.1 (vs++cap)).run P w:=by simp [invoke]
     exact this.trans hent)
    have hpan:Yl0 g' ({ { c with defers:=ds } with mode:=.returning }:Frame).mode none:=rfl
    exact IH ds none g' h' w' ({ { c with defers:=ds } with mode:=.returning }:Frame) hcf hck rfl (hs.mono hg'.ext) (DCalls.mono ⟨by simpa using hD.1,fun i d m a b=>hD.2 (i+1) d m (by simpa using a) (by simpa using b)⟩ hg'.ext) hpan (hg.trans hg') hW' (hG.mono hg'.ext.S) (hst.trans (.head hstep hst'))
   | none _ _=>trivial
   | code _ _ _=>trivial
   | ret _ _=>trivial
   | panic _ _=>trivial
theorem KI0 (hI:Snd P E ih) {f:FuncId} {fn:Func} (hfn:P.funcs[f]?=some fn) {g0 g:Gh} {h:Heap} {w w00:World} {fr:Fr} {us:Array Value} {b:Frame} {a:Act} {todo:List Item} {mode:FrameMode} {cs:List Frame} (hcall:(callFunc f us).run P w00=.ok (.enter f us) w00) (hbf:b.fn=f) (hbk:b.kind=.normal)
 (hf:FrOkP g b fr a) {p:Option V} (hp:Yl0 g mode p) (hg:Grown B g0 g) (hW:W B w0 g h w) (hG:GlobOk E.glob g.S) (hst:Steps P (lone (Frame.enter P f us .normal) cs w00) (lone { b.atR a todo with mode:=mode } cs w)):CallOk P B w0 g0 cs f us w00 (QH0 P ih f fn fr p h):=by
 have hrun:mode≠.run:=by
  cases p with
  | none=>rw [hp];simp
  | some y=>obtain ⟨v,hm,_⟩:=hp;rw [hm];simp
 unfold QH0
 cases hk:ZJ0 fr.marks h with
 | none=>trivial
 | some h2 =>
  simp only
  rcases hf.marks with ⟨hfs,hM⟩ | ⟨hms,hD⟩
  ·obtain ⟨w2,h3,h4⟩:=XS1 (P:=P) fr.marks a.defers { b.atR a todo with mode:=mode } cs h h2 w hrun rfl hM hW hk
   rw [hfs]
   exact Qe1 hI hfn hcall rfl [] [] p g h2 w2 { { b.atR a todo with mode:=mode } with defers:=[] } hbf hbk rfl hf.slots ⟨rfl,fun i d q x=>by simp at x⟩ hp hg h4 hG (hst.trans h3)
  ·rw [hms] at hk
   cases hk
   exact Qe1 hI hfn hcall rfl fr.defers a.defers p g h w { b.atR a todo with mode:=mode } hbf hbk rfl hf.slots hD hp hg hW hG hst
theorem zd1 (hI:Snd P E ih) (hN:yq0 P) {g:Gh} {h:Heap} {w:World} (cs:List Frame) (f:FuncId) (args:List V) (us:Array Value) (hW:W B w0 g h w) (hG:GlobOk E.glob g.S) (hs:Rs' g us args):CallOk P B w0 g cs f us w (Jg0 P E ih f args h):=by
 unfold Jg0
 split
 ·trivial
 ·rename_i fn hfn
  split
  ·rename_i hb
   split
   ·rename_i v h' he
    obtain ⟨g',w',u,h1,h2,h3,h4⟩:=JC1 hW hs hfn hb he
    exact ⟨g',w',u,h1,h2,h3,.inl h4⟩
   ·trivial
  ·rename_i body hb
   cases hle:Nat.ble (List.len args) fn.ntmps with
   | false=>trivial
   | true =>
    rw [Nat.ble_eq,List.len_eq] at hle
    simp only [cond_true]
    have hcall:=qf1 hN (us:=us) (w:=w) hfn hb
    let b:Frame:={ (default:Frame) with fn:=f,kind:=.normal,roundOf:=none }
    let a:Act:={ tmps:=us++Array.replicate (fn.ntmps-us.size) Go.undef,defers:=[] }
    let fr0:Fr:=⟨f,fn.ntmps,yg0 args 0 (zX0 (zZ0 fn.ntmps)),[],[],none,none,false⟩
    have henter:Frame.enter P f us .normal=b.atR a [.code body]:=by
     simp [Frame.enter,Frame.atR,hfn,hb,b,a]
    have hfr:FrOk g b fr0 a:=⟨rfl,zs1 hs hle,rfl,DefsOk.nil g⟩
    have hc:=hI.code body fr0 a b [] cs hW hG hfr
    rw [← henter] at hc
    change CallOk P B w0 g cs f us w (KJ0 P ih f fn (ih (.code body fr0 h)))
    cases hr:ih (.code body fr0 h) with
    | none _ _=>trivial
    | ret _ _=>rw [hr] at hc;exact hc.elim
    | panic _ _=>rw [hr] at hc;exact hc.elim
    | dret _ _=>rw [hr] at hc;exact hc.elim
    | code e fr h1 =>
     rw [hr] at hc
     obtain ⟨g',a',w',hg,hW',hf',hA⟩:=hc
     have hG':=hG.mono hg.ext.S
     cases e with
     | normal=>exact KI0 hI hfn hcall rfl rfl (FrOk.weak hf') (p:=none) (mode:=.returning) rfl hg hW' hG' (Steps.trans hA (.one (stepR_end rfl)))
     | ret=>obtain ⟨todo,hs'⟩:=hA;exact KI0 hI hfn hcall rfl rfl (FrOk.weak hf') (p:=none) (mode:=.returning) rfl hg hW' hG' (hs'.trans (.one (stepR_ret rfl)))
     | exit id=>trivial
     | goto l=>trivial
     | panic y =>
      obtain ⟨v,todo,hR,hst⟩:=hA
      exact KI0 hI hfn hcall rfl rfl hf' (p:=some y) ⟨v,rfl,hR⟩ hg hW' hG' hst
theorem yP1 {o:Oper} (h:QO0 o=true):o.guard=none∧∃ ats,o.op=.call { callee:=.builtin .recover,args:=#[],argTypes:=ats }:=by
 unfold QO0 at h
 split at h
 ·rename_i hg
  refine ⟨hg,?_⟩
  split at h
  ·rename_i c hc
   obtain ⟨callee,args,ats⟩:=c
   simp only at h
   split at h
   ·have:args=#[]:=by simpa [Array.isEmpty] using h
    subst this
    exact ⟨ats,hc⟩
   ·cases h
  ·cases h
 ·cases h
theorem qU2 {o:Oper} (h:QO0 o=true) (a:Act) (w:World):(o.semAt none a.eval).run P w=.ok .recover w:=by
 obtain ⟨_,ats,ho⟩:=yP1 h
 rw [Oper.semAt_none]
 unfold execOp
 rw [ho]
 simp [resolve,invoke,Go.builtin]
theorem zi1 (hI:Snd P E ih) (hN:yq0 P) {g:Gh} {h:Heap} {w:World} (c:Frame) (cs:List Frame) (f:FuncId) (args:List V) (us:Array Value) (p:Option V) (hW:W B w0 g h w) (hG:GlobOk E.glob g.S) (hs:Rs' g us args) (hp:Yl0 g c.mode p):Ki0 P B w0 g c cs f us w (Ji0 P E ih f args p h):=by
 unfold Ji0
 split
 ·trivial
 ·rename_i fn hfn
  split
  ·rename_i id ops rest hb
   split
   ·trivial
   ·rename_i o l hops
    cases hcnd:(QO0 o&&qb0 fn.results.toList&&Nat.ble (List.len args) fn.ntmps) with
    | false=>trivial
    | true =>
     simp only [Bool.and_eq_true] at hcnd
     obtain ⟨⟨hrec,hres⟩,hle⟩:=hcnd
     rw [Nat.ble_eq,List.len_eq] at hle
     have hres:fn.results=#[]:=by
      have hnil:∀ {α:Type} (l:List α),qb0 l=true→l=[]:=fun l h=>by cases l with
       | nil=>rfl
       | cons _ _=>cases h
      apply Array.ext';simpa using hnil _ hres
     simp only [cond_true]
     have hcall:=qf1 hN (us:=us) (w:=w) hfn hb
     let b:Frame:={ (default:Frame) with fn:=f,kind:=.deferred,roundOf:=none }
     let a:Act:={ tmps:=us++Array.replicate (fn.ntmps-us.size) Go.undef,defers:=[] }
     let fr0:Fr:=⟨f,fn.ntmps,yg0 args 0 (zX0 (zZ0 fn.ntmps)),[],[],none,none,false⟩
     have henter:Frame.enter P f us .deferred=b.atR a [.code (.seq (.region id ops false) rest)]:=by
      simp [Frame.enter,Frame.atR,hfn,hb,b,a]
     have hfr:FrOk g b fr0 a:=⟨rfl,zs1 hs hle,rfl,DefsOk.nil g⟩
     have hsz:ops.size=l.length+1:=by rw [← Array.length_toList,hops];rfl
     have h0:ops[0]?=some o:=by rw [← Array.getElem?_toList,hops];rfl
     have hw0:Region.wanted o (yielded ops a.tmps)=true:=by
      unfold Region.wanted;rw [(yP1 hrec).1]
     split
     ·rename_i fr1 hput
      obtain ⟨c',v,hRv,hst0,hset,hcd⟩:∃ (c':Frame) (v:Value),R g v (Xz0 p)∧Go.step P (lone (b.atR a (.inRegion ops (0::List.range' 1 l.length)::[.code rest])) (c::cs) w)=.next (lone (b.atR (a.put o.dst v) (.inRegion ops (List.range' 1 l.length)::[.code rest])) (c'::cs) w)∧settle c'.mode=.returning∧{ c' with mode:=.returning }=({ c with mode:=.returning }:Frame):=by
       have hfin:∀ v,(b.atR a (.inRegion ops (0::List.range' 1 l.length)::[.code rest])).finish v=b.atR (a.put o.dst v) (.inRegion ops (List.range' 1 l.length)::[.code rest]):=fun v=>by rw [Frame.finish_atR,h0];rfl
       have hsem:=qU2 (P:=P) hrec a w
       have hkind:(b.atR a (.inRegion ops (0::List.range' 1 l.length)::[.code rest])).kind=.deferred:=rfl
       have hro:(b.atR a (.inRegion ops (0::List.range' 1 l.length)::[.code rest])).roundOf=none:=rfl
       cases p with
       | none =>
        refine ⟨c,.nilIface,.gnd .nili,?_,by rw [hp];rfl,rfl⟩
        have htr:tryRecover (b.atR a (.inRegion ops (0::List.range' 1 l.length)::[.code rest])) (c::cs)=none:=by
         have hp:c.mode=.returning:=hp
         simp [tryRecover,hkind,hp]
        refine step_lone_go ?_
        rw [stepGR_op h0 hw0,← hfin]
        simp [stepG.apply,hsem,hro,htr,b]
       | some y =>
        obtain ⟨v,hm,hR⟩:=hp
        refine ⟨{ c with mode:=.panicking [{ v,recovered:=true }] },v,hR,?_,rfl,rfl⟩
        have htr:tryRecover (b.atR a (.inRegion ops (0::List.range' 1 l.length)::[.code rest])) (c::cs)=some (v,{ c with mode:=.panicking [{ v,recovered:=true }] }::cs):=by
         simp [tryRecover,hkind,hm,Qk0]
        refine step_lone_go ?_
        rw [stepGR_op h0 hw0,← hfin]
        simp [stepG.apply,hsem,hro,htr,b]
      have hfr1:=hfr.put hRv hput
      have hrun:=Qf1 hI (b:=b) (k:=[.code rest]) (cs:=c'::cs) (ops:=ops) l 1 (by rw [hops];rfl) hW hG hfr1
      have hseq:=XP0 (ih:=ih) (c:=rest) (x:=.code rest) (k:=[]) (fun _=>rfl) hrun fun g' a' w' fr' h' hg hW' hf'=>hI.code rest fr' a' b [] (c'::cs) hW' (hG.mono hg.ext.S) hf'
      have hstart:Steps P (lone (Frame.enter P f us .deferred) (c::cs) w) (lone (b.atR (a.put o.dst v) (.inRegion ops (List.range' 1 l.length)::[.code rest])) (c'::cs) w):=by
       rw [henter]
       refine .head stepR_seq (.head stepR_region ?_)
       have:List.range ops.size=0::List.range' 1 l.length:=by
        rw [List.range_eq_range',hsz,List.range'_succ]
       rw [this]
       exact .one hst0
      cases hr:Qp0 ih rest (Zc0 P E ih ops.toList l fr1 h) with
      | none _ _=>trivial
      | ret _ _=>trivial
      | panic _ _=>trivial
      | dret _ _=>trivial
      | code e fr' h' =>
       rw [hr] at hseq
       obtain ⟨g',a',w',hg,hW',hf',hA⟩:=hseq
       unfold YD0
       simp only
       cases hnn:(qb0 fr'.marks&&qb0 fr'.defers) with
       | false=>trivial
       | true =>
        rw [Bool.and_eq_true] at hnn
        have hnil:∀ {α:Type} (l:List α),qb0 l=true→l=[]:=fun l h=>by cases l with
         | nil=>rfl
         | cons _ _=>cases h
        have hm:=hnil _ hnn.1
        have hd:=hnil _ hnn.2
        have fin:∀ (todo:List Item),FrOk g' b fr' a'→Steps P (lone (b.atR (a.put o.dst v) (.inRegion ops (List.range' 1 l.length)::[.code rest])) (c'::cs) w) (lone { b.atR a' todo with mode:=.returning } (c'::cs) w')→Ki0 P B w0 g c cs f us w (.dret true h'):=by
         intro todo hf' hs'
         have hmk:=hf'.marks
         rw [hm,hd] at hmk
         have hds:a'.defers=[]:=by have:=hmk.calls.1;simpa using this
         have hgo:({ b.atR a' todo with mode:=.returning }:Frame).going P w' (.returned (.tuple #[])):=by
          refine ⟨rfl,hds,fn,hfn,?_⟩
          simp [Go.results,hres]
         have hlast:=step_going_returned (P:=P) (fr:={ b.atR a' todo with mode:=.returning }) (c:=c') (cs:=cs) (w:=w') rfl hgo
         rw [hset,hcd] at hlast
         exact ⟨g',w',hg,hW',hcall,hstart.trans (hs'.trans (.one hlast))⟩
        cases e with
        | normal=>exact fin [] hf' (Steps.trans hA (.one (stepR_end rfl)))
        | ret=>obtain ⟨todo,hs'⟩:=hA;exact fin _ hf' (hs'.trans (.one (stepR_ret rfl)))
        | exit _=>trivial
        | goto _=>trivial
        | panic _=>trivial
     ·trivial
  ·trivial
variable {P:Program} {E:Env} {ih:Task→Res} {B:Ns} {w0:World}
theorem za2 {g:Gh} {n:Nat} (ps:List Tmp):∀ (us:List Value) (args:List V) (tm tm':T V) (tmps:Array Value),us.length=args.length→(∀ (i:Nat) v x,us[i]?=some v→args[i]?=some x→R g v x)→Slots g n tm tmps→Jm0 ps n args tm=some tm' →
 args.length=ps.length∧Slots g n tm' ((ps.zip us).foldl (fun (t:Array Value) (p:Tmp×Value)=>t.setIfInBounds p.1 p.2) tmps):=by
 induction ps with
 | nil =>
  intro us args tm tm' tmps hl hr hs h
  cases args with
  | nil=>cases h;exact ⟨rfl,hs⟩
  | cons _ _=>cases h
 | cons p ps IH =>
  intro us args tm tm' tmps hl hr hs h
  cases args with
  | nil=>cases h
  | cons x args =>
   cases us with
   | nil=>simp at hl
   | cons u us =>
    change (bif Nat.blt p n then Jm0 ps n args (tm.set undef x p) else .none)=some tm' at h
    obtain ⟨hb,h⟩:=qf0 h rfl
    rw [Nat.blt_eq] at hb
    obtain ⟨h1,h2⟩:=IH us args _ tm' (tmps.setIfInBounds p u) (by simpa using hl) (fun i v x a c=>hr (i+1) v x (by simpa using a) (by simpa using c)) (hs.set hb (hr 0 u x rfl rfl)) h
    exact ⟨by simp [h1],by simpa using h2⟩
theorem YE1 {w:World} {b:Nat} {L:Loop} (h:w.heap[b]?=some (.loop L)) (j:Option Code) (st:LoopState) (hst:st=if j.isNone then .ready else .done):(Instr.endRound b j).run P w=.ok (.bool j.isNone) (w.putObj b (.loop { L with state:=st,pending:=j })):=by
 rw [run_endRound j h,hst]
theorem QP1 (hI:Snd P E ih) {g:Gh} {h:Heap} {w:World} (c:Frame) (cs:List Frame) (l b:Nat) (k:Nat×Nat) (args:List V) (us:Array Value) (hW:W B w0 g h w) (hG:GlobOk E.glob g.S) (hv:g.vr l=none) (hm:g.mu l=some (b,k)) (hs:Rs' g us args) :
 Ju0 P B w0 g c cs b us w (Jl0 ih l args h):=by
 unfold Jl0
 split
 ·rename_i st pe fn n tm ps as bd d hget
  have hobj:=hW.obj l _ hm
  rw [hget] at hobj
  obtain ⟨hz,L,h1,h2,h3,h4,h5,h6,h7,h8,h9,h10,kd,h11⟩:=hobj
  split
  ·trivial
  ·rename_i tm' htm
   have hus:us.toList.length=args.length:=by simpa using hs.1
   obtain ⟨hlen,hslots⟩:=za2 ps us.toList args tm tm' L.tmps hus (fun i v x a q=>hs.2 i v x (by simpa using a) q) ⟨h5,h6,hz⟩ htm
   have hround:=run_yield (P:=P) (args:=us) h1 (by rw [hs.1,hlen,← h7];simp)
   have htmps:(L.params.zip us).foldl (fun tmps (t,a)=>tmps.setIfInBounds t a) L.tmps=(ps.zip us.toList).foldl (fun (t:Array Value) (p:Tmp×Value)=>t.setIfInBounds p.1 p.2) L.tmps:=by
    rw [← Array.foldl_toList,Array.toList_zip,h7]
   rw [htmps] at hround
   let bf:Frame:={ (default:Frame) with fn:=fn,kind:=.normal,roundOf:=some b }
   let a:Act:={ tmps:=(ps.zip us.toList).foldl (fun (t:Array Value) (p:Tmp×Value)=>t.setIfInBounds p.1 p.2) L.tmps,defers:=[] }
   have hfr0:Frame.round b fn a.tmps as bd .normal=bf.atR a [.code as,.beginRound,.code bd]:=rfl
   have hf0:FrOk g bf ⟨fn,n,tm',[],[],some l,none,false⟩ a:=⟨rfl,hslots,⟨b,k,rfl,hv,hm⟩,DefsOk.nil g⟩
   rw [h4,h8,h9] at hround
   have hc:=hI.code as _ a bf [.beginRound,.code bd] (c::cs) hW hG hf0
   rw [← hfr0] at hc
   cases hr:ih (.code as ⟨fn,n,tm',[],[],some l,none,false⟩ h) with
   | none _ _=>trivial
   | ret _ _=>rw [hr] at hc;exact hc.elim
   | panic _ _=>rw [hr] at hc;exact hc.elim
   | dret _ _=>rw [hr] at hc;exact hc.elim
   | code e fr h1' =>
    rw [hr] at hc
    obtain ⟨g1,a1,w1,hg1,hW1,hf1,hA⟩:=hc
    cases e with
    | normal =>
     obtain ⟨hv1,hm1⟩:=hg1.ext.obj _ _ hv hm
     change Ju0 P B w0 g c cs b us w (endRound l (match h1'.get l with | .loop st pend fn n tm ps a b d=>(match st with | .ready=>ih (.code bd fr (h1'.set l (.loop .busy pend fn n tm ps a b d))) | _=>.none l .none) | _=>.none l .none))
     split
     ·rename_i st1 pe1 fn1 n1 tm1 ps1 as1 bd1 d1 hget1
      split
      ·obtain ⟨L1,q1,q2,q3,hW2⟩:=W.setLoop (st':=.busy) (pe':=pe1) hW1 hv1 hm1 hget1
       have hb1:=run_beginRound (P:=P) q1 q2
       have hL1:({ L1 with state:=.busy,pending:=pe1 }:Loop)={ L1 with state:=.busy }:=by rw [← q3]
       rw [hL1] at hW2
       have hst2:Steps P (lone (Frame.round b fn a.tmps as bd .normal) (c::cs) w) (lone (bf.atR a1 [.code bd]) (c::cs) _):=Steps.trans hA (.one (stepR_beginRound (b:=bf) rfl hb1))
       have hc2:=hI.code bd fr a1 bf [] (c::cs) hW2 (hG.mono hg1.ext.S) hf1
       cases hr2:ih (.code bd fr (h1'.set l (.loop .busy pe1 fn1 n1 tm1 ps1 as1 bd1 d1))) with
       | none _ _=>trivial
       | ret _ _=>rw [hr2] at hc2;exact hc2.elim
       | panic _ _=>rw [hr2] at hc2;exact hc2.elim
       | dret _ _=>rw [hr2] at hc2;exact hc2.elim
       | code e2 fr2 h2 =>
        rw [hr2] at hc2
        obtain ⟨g2,a2,w2,hg2,hW2',hf2,hA2⟩:=hc2
        obtain ⟨hv2,hm2⟩:=hg2.ext.obj _ _ hv1 hm1
        have hgg:=hg1.trans hg2
        unfold endRound
        simp only
        split
        ·rename_i st2 pe2 fn2 n2 tm2 ps2 as2 bd2 d2 hget2
         split
         ·have last:∀ (j:Option Code) (st:LoopState),(st=if j.isNone then .ready else .done)→∃ v w',(Instr.endRound b j).run P w2=.ok (.bool j.isNone) w'∧W B w0 g2 (h2.set l (.loop st j fn2 n2 tm2 ps2 as2 bd2 d2)) w'∧v=Value.bool j.isNone:=by
           intro j st hst
           obtain ⟨L2,q1,q2,q3,hW3⟩:=W.setLoop (st':=st) (pe':=j) hW2' hv2 hm2 hget2
           exact ⟨_,_,YE1 q1 j st hst,hW3,rfl⟩
          cases e2 with
          | normal =>
           obtain ⟨v,w',e1,e2,rfl⟩:=last none .ready rfl
           exact ⟨g2,w',_,hgg,e2,.gnd (.bool _),fn,_,as,bd,hround,hst2.trans (Steps.trans hA2 (.one (stepR_round_end (b:=bf) rfl rfl e1)))⟩
          | ret =>
           obtain ⟨todo,hA3⟩:=hA2
           obtain ⟨v,w',e1,e2,rfl⟩:=last (some .ret) .done rfl
           exact ⟨g2,w',_,hgg,e2,.gnd (.bool _),fn,_,as,bd,hround,hst2.trans (Steps.trans hA3 (.one (stepR_round_ret (b:=bf) rfl rfl e1)))⟩
          | exit id =>
           obtain ⟨todo,hx,hA3⟩:=hA2
           obtain ⟨v,w',e1,e2,rfl⟩:=last (some (.exit id)) .done rfl
           exact ⟨g2,w',_,hgg,e2,.gnd (.bool _),fn,_,as,bd,hround,hst2.trans (Steps.trans hA3 (.one (stepR_round_exit (b:=bf) rfl rfl hx e1)))⟩
          | goto l=>trivial
          | panic y=>trivial
         ·trivial
        ·trivial
      ·trivial
     ·trivial
    | exit id=>trivial
    | goto l=>trivial
    | ret=>trivial
    | panic y=>trivial
 ·trivial
variable {P:Program} {E:Env}
theorem qi1 (hN:yq0 P) (hP:yr0 P E) (n:Nat):Snd P E (run P E n):=by
 induction n with
 | zero=>exact ⟨hP,fun _ _ _ _ _ _ _ _ _=>trivial,fun _ _ _ _ _ _ _ _ _=>trivial,fun _ _ _ _ _ _ _ _ _ _=>trivial,fun _ _ _ _ _ _ _=>trivial,fun _ _ _ _ _ _ _ _ _ _ _ _=>trivial⟩
 | succ n IH =>
  exact ⟨hP,fun c fr a b k cs hW hG hf=>JI0 IH c fr a b k cs hW hG hf,fun c fr a b k cs hW hG hf=>jf1 IH c fr a b k cs hW hG hf,
   fun c cs f args us p hW hG hs hp=>zi1 IH hN c cs f args us p hW hG hs hp,fun cs f args us hW hG hs=>zd1 IH hN cs f args us hW hG hs,fun c cs l b k args us hW hG hv hm hs=>QP1 IH c cs l b k args us hW hG hv hm hs⟩
variable {P:Program} {E:Env} {ih:Task→Res}
def allOf (W:World):Nat→Nat→Option Value:=look W
theorem Za1 (W:World):jD0 (allOf W) W:=fun _ _ _ h=>h
def isTrue (r:Res):Bool :=
 match r with
 | .ret v _=>(match v with
  | .bool b=>b
  | _=>false)
 | _=>false
def eqF (x y:V):Bool :=
 match x with
 | .fsl t s p es c=>(match y with
  | .fsl t' s' p' es' c'=>Nat.beq t t'&&Nat.beq s s'&&Nat.beq p p'&&yC0 c c'&&zP0 (veq depth) es es'
  | _=>false)
 | x=>veq depth x y
theorem zt1 (x y:V) (h:eqF x y=true):x=y:=by
 unfold eqF at h
 split at h
 ·split at h
  ·simp only [Bool.and_eq_true,Nat.beq_eq] at h
   obtain ⟨⟨⟨⟨h1,h2⟩,h3⟩,h4⟩,h5⟩:=h
   rw [h1,h2,h3,Xy0 _ _ h4,Kf0 (qw1 depth) _ _ h5]
  ·cases h
 ·exact qw1 _ _ _ h
def eqP (x y:V):Bool :=
 match x with
 | .agg a=>(match y with
  | .agg b=>zP0 eqF a b
  | _=>false)
 | x=>eqF x y
theorem zv1 (x y:V) (h:eqP x y=true):x=y:=by
 unfold eqP at h
 split at h
 ·split at h
  ·rw [Kf0 zt1 _ _ h]
  ·cases h
 ·exact zt1 _ _ h
def KM0 (x y:V):Bool :=
 match x with
 | .tup a=>(match y with
  | .tup b=>zP0 eqP a b
  | _=>false)
 | x=>eqP x y
theorem YL1 {x y:V} (h:KM0 x y=true):x=y:=by
 unfold KM0 at h
 split at h
 ·split at h
  ·rw [Kf0 zv1 _ _ h]
  ·cases h
 ·exact zv1 _ _ h
def Xr0 (r:Res) (v:V):Bool :=
 match r with
 | .ret y hc=>(match Ye0 hc y with
  | some u=>KM0 u v
  | none=>false)
 | _=>false
theorem jm1 (hS:Snd P E ih) {f:FuncId} {gs:List V} {v:V} (h:Xr0 (ih (.call f gs Heap.empty)) v=true):PureOk P E.glob f gs v:=by
 unfold Xr0 at h
 split at h
 ·rename_i y hc hr
  split at h
  ·rename_i u hu
   have:=YL1 h;subst this
   exact PureOk.of_run hS hr hu
  ·cases h
 ·cases h
def Gp0 (T:List (List UInt8×V)) (s:List UInt8):Option V:=List.rec none (fun p _ ih=>bif zC0 s p.1 then some p.2 else ih) T
def Xp0 {α:Type} (TT:List (FuncId×α)) (f:FuncId):Option α:=List.rec none (fun p _ ih=>bif Nat.beq f p.1 then some p.2 else ih) TT
def YS0 (TT:List (FuncId×List (List UInt8×V))) (T0:List (FuncId×V)) (f:FuncId) (gs:List V):Option V :=
 match gs with
 | []=>Xp0 T0 f
 | x::r=>match r with
  | []=>(match x with
   | .str s=>(match Xp0 TT f with
    | some T=>Gp0 T s
    | none=>none)
   | _=>none)
  | _=>none
theorem Kk1 {T:List (List UInt8×V)} {s:List UInt8} {v:V} (h:Gp0 T s=some v):(s,v)∈T:=by
 induction T with
 | nil=>cases h
 | cons p T IH =>
  change (bif zC0 s p.1 then some p.2 else Gp0 T s)=some v at h
  cases hs:zC0 s p.1 with
  | true =>
   rw [hs] at h;cases h
   rw [(Jp0 _ _).1 hs];simp
  | false=>rw [hs] at h;simp [IH h]
theorem jb1 {α:Type} {T:List (FuncId×α)} {f:FuncId} {v:α} (h:Xp0 T f=some v):(f,v)∈T:=by
 induction T with
 | nil=>cases h
 | cons p T IH =>
  change (bif Nat.beq f p.1 then some p.2 else Xp0 T f)=some v at h
  cases hs:Nat.beq f p.1 with
  | true =>
   rw [hs] at h;cases h
   rw [Nat.beq_eq] at hs;rw [hs];simp
  | false=>rw [hs] at h;simp [IH h]
def ckT (P:Program) (E:Env) (n:Nat) (f:FuncId) (T:List (List UInt8×V)):Bool:=qV0 (fun q=>Xr0 (run P E n (.call f [.str q.1] Heap.empty)) q.2) T
def ck0 (P:Program) (E:Env) (n:Nat) (T:List (FuncId×V)):Bool:=qV0 (fun q=>Xr0 (run P E n (.call q.1 [] Heap.empty)) q.2) T
theorem Yz0 {n:Nat} (hS:Snd P E (run P E n)) {f:FuncId} {T:List (List UInt8×V)} (h:ckT P E n f T=true):∀ q,q∈T→PureOk P E.glob f [.str q.1] q.2:=fun q hq=>jm1 hS ((yK0 _ _).1 h q hq)
theorem Ya1 {n:Nat} (hS:Snd P E (run P E n)) {T:List (FuncId×V)} (h:ck0 P E n T=true):∀ q,q∈T→PureOk P E.glob q.1 [] q.2:=fun q hq=>jm1 hS ((yK0 _ _).1 h q hq)
theorem GA0 {TT:List (FuncId×List (List UInt8×V))} {T0:List (FuncId×V)} (hE:E.prim=YS0 TT T0) (h1:∀ p,p∈TT→∀ q,q∈p.2→PureOk P E.glob p.1 [.str q.1] q.2) (h0:∀ q,q∈T0→PureOk P E.glob q.1 [] q.2):yr0 P E:=by
 intro f gs v h
 rw [hE] at h
 unfold YS0 at h
 split at h
 ·exact h0 _ (jb1 h)
 ·split at h
  ·split at h
   ·split at h
    ·rename_i T hT
     exact h1 _ (jb1 hT) _ (Kk1 h)
    ·cases h
   ·cases h
  ·cases h
theorem GT1 (hE:E.prim=fun _ _=>none):yr0 P E:=by
 intro f gs v h;rw [hE] at h;cases h
def jq1 (l : List Func) : Bool := l.all fun fn => !(fn.body.isSome && fn.name == "runtime.NumGoroutine")
theorem KP1 (h:jq1 P.funcs.toList=true):yq0 P:=by
 intro f fn hf hb e
 unfold jq1 at h
 rw [List.all_eq_true] at h
 have:=h fn (List.mem_of_getElem? (by simpa using hf))
 simp [hb,e] at this
theorem tab_gr {S:Nat→Nat→Option Value} {gl n:Nat} {k:IntKind} {zs:List Int} (hn:zs.length=n) (h0:0<n) (h:∀ i,i<n→S gl i=some (.int k (zs.getD i 0))):GR S (.pointer (some ⟨gl,0,none⟩)) (.gptr n [.agg (zs.map (V.int k))] 0):=by
 refine .gptr (base:=0) (off:=0) (fun _ j=>.int k (zs.getD j 0)) h0 (fun i e he=>?_) (fun i e j x he hx=>?_) (fun i e j x he hx=>?_)
 ·cases i with
  | zero=>cases he;exact ⟨by simp [V.cells,hn],rfl⟩
  | succ i=>simp at he
 ·cases i with
  | zero =>
   cases he
   have hj:=qd0 hx
   simp [V.cells] at hj
   exact ⟨by simpa using h j (by omega),rfl⟩
  | succ i=>simp at he
 ·cases i with
  | zero =>
   cases he
   simp only [V.cells,List.getElem?_map] at hx
   cases hz:zs[j]? with
   | none=>rw [hz] at hx;cases hx
   | some z=>rw [hz] at hx;cases hx;simp [List.getD_eq_getElem?_getD,hz];exact .int _ _
  | succ i=>simp at he
theorem XW1 {W:World} {l:List (String×DataW Unit)}:∀ {ps:List MemPlace},DataW.LaidVars P W l ps→∀ {n:String} {d:DataW Unit},(n,d)∈l→∃ g t cs fuel p,P.globalNamed n=some g∧(P.globals[g]?).map (·.type)=some t∧W.var? P n=some cs∧DataW.trod (fun _=>()) P W 0 (fun _=>true) false fuel t cs.toList=some (d,p):=by
 induction l with
 | nil=>intro ps _ n d h;cases h
 | cons x l IH =>
  intro ps h n d hm
  obtain ⟨n',d'⟩:=x
  obtain ⟨g,t,cs,fuel,p,q,h1,h2,h3,h4,h5,_⟩:=h
  rcases List.mem_cons.1 hm with e | e
  ·cases e;exact ⟨g,t,cs,fuel,p,h1,h2,h3,h4⟩
  ·exact IH h5 e
theorem laid_cell {W:World} {l:List (String×DataW Unit)} {name:String} {k:IntKind} {zs:List Int} {g:Nat} {t e:TypeId} {n:Nat} (h:laidMet P l W) (hm:(name,Lib.tabData k zs)∈l)
 (hg:P.globalNamed name=some g) (hty:(P.globals[g]?).map (·.type)=some t) (ht:P.underlying t=some (.array n e)) (he:P.underlying e=some (.int k)) (hce:P.cellsOf e=1) (hct:P.cellsOf t=n) (i:Nat) (hi:i<zs.length):allOf W g i=some (.int k (zs.getD i 0)):=by
 obtain ⟨ps,hl,_⟩:=h
 obtain ⟨g',t',cs,fuel,p,hg',ht',hvar,hd⟩:=XW1 hl hm
 obtain rfl:=Option.some.inj (hg.symm.trans hg')
 obtain rfl:=Option.some.inj (hty.symm.trans ht')
 have hT:Lib.TabIs P W name k zs:=by
  unfold Lib.TabIs
  rw [hvar,← Lib.cells_of_tab ht he hce hct hd]
 exact Gt0 (hT.cell hg i hi) rfl

end
end Go.AM
