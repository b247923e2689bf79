/-
  AN ABSTRACT MACHINE that runs a program over plain data, and a second one that tells what calls come to, are sound against the model (a part of it). No condition but what each theorem says.
-/
import Derived.Laws.AppendOwn
import Derived.Laws.Build
import Derived.Laws.BytesArg
import Derived.Laws.Externs
import Derived.Laws.MakeOwn
import Derived.Lib.Bytealg
import Derived.Lib.MakeNoZero
import Derived.Lib.UnsafeStr
import Derived.RangeFuncRecord
import Derived.Test.YtcfdhkmbooipbaaGreatDoorTt1
namespace Go.AM
noncomputable section
open Go.RowKit
structure EsOk (g:Gh) (sz:Nat) (cells:List Value) (es:List V):Prop where
 size:cells.length=es.length*sz
 elems:∀ (i:Nat) e,es[i]?=some e→e.cells.length=sz∧e.flat=true
 rel:∀ (i:Nat) e (j:Nat) x,es[i]?=some e→e.cells[j]?=some x→∃ v,cells[i*sz+j]?=some v∧v.oneCell'=true∧R g v x
theorem EsOk.nil {g:Gh} {sz:Nat}:EsOk g sz [] []:=⟨by simp,fun i e h=>by simp at h,fun i e j x h=>by simp at h⟩
theorem EsOk.one {g:Gh} {sz:Nat} {cells:List Value} {es:List V} (h:EsOk g sz cells es):∀ (j:Nat) v,cells[j]?=some v→v.oneCell'=true:=by
 intro j v hv
 have hj:j<es.length*sz:=by rw [← h.size];exact qd0 hv
 have hsz:0<sz:=by
  rcases Nat.eq_zero_or_pos sz with h0 | h0
  ·rw [h0] at hj;omega
  ·exact h0
 have hi:j/sz<es.length:=Nat.div_lt_of_lt_mul (by rw [Nat.mul_comm];exact hj)
 obtain ⟨e,he⟩:=qr0 es _ hi
 obtain ⟨hl,_⟩:=h.elems _ _ he
 obtain ⟨x,hx⟩:=qr0 e.cells (j%sz) (by rw [hl];exact Nat.mod_lt _ hsz)
 obtain ⟨u,hu,h1,_⟩:=h.rel _ _ _ _ he hx
 have:j/sz*sz+j%sz=j:=by have:=Nat.div_add_mod j sz;rw [Nat.mul_comm] at this;exact this
 rw [this,hv] at hu;cases hu;exact h1
theorem EsOk.app {g:Gh} {sz:Nat} {c1 c2:List Value} {e1 e2:List V} (h1:EsOk g sz c1 e1) (h2:EsOk g sz c2 e2):EsOk g sz (c1++c2) (e1++e2) where
 size:=by simp [h1.size,h2.size,Nat.add_mul]
 elems:=fun i e he=>by
  rw [List.getElem?_append] at he
  split at he
  ·exact h1.elems i e he
  ·exact h2.elems _ e he
 rel:=fun i e j x he hx=>by
  rw [List.getElem?_append] at he
  split at he
  ·rename_i hi
   obtain ⟨v,hv,p⟩:=h1.rel i e j x he hx
   exact ⟨v,by rw [List.getElem?_append_left (qd0 hv)];exact hv,p⟩
  ·rename_i hi
   obtain ⟨v,hv,p⟩:=h2.rel _ e j x he hx
   refine ⟨v,?_,p⟩
   have:i*sz+j=c1.length+((i-e1.length)*sz+j):=by
    rw [h1.size,← Nat.add_assoc,← Nat.add_mul]
    congr 2;omega
   rw [this,List.getElem?_append_right (by omega)]
   rw [show c1.length+((i-e1.length)*sz+j)-c1.length=(i-e1.length)*sz+j by omega]
   exact hv
theorem EsOk.mono {g g':Gh} {sz:Nat} {c:List Value} {es:List V} (h:EsOk g sz c es) (hx:Ext g g'):EsOk g' sz c es :=
 ⟨h.size,h.elems,fun i e j x a b=>(match h.rel i e j x a b with | ⟨v,p,q,r⟩=>⟨v,p,q,r.mono hx⟩)⟩
theorem RowOk.es {g:Gh} {w:World} {b k sz ty pub:Nat} {cap:Option Nat} {es:List V} {C:Array Value} {fr:Nat×Nat} (h:RowOk g w b k sz ty pub cap es C fr) {o n:Nat} (hn:o+n≤es.length) :
 EsOk g sz ((C.toList.drop (o*sz)).take (n*sz)) ((es.drop o).take n) where
 size:=by
  have h1:=h.csize
  have h2:=h.fits
  have:(o+n)*sz≤k*sz:=Nat.mul_le_mul_right _ (by omega)
  rw [Nat.add_mul] at this
  have h3:min n (es.length-o)=n:=by omega
  simp only [List.length_take,List.length_drop,Array.length_toList,h3]
  omega
 elems:=fun i e he=>by
  rw [List.getElem?_take] at he
  split at he
  ·rw [List.getElem?_drop] at he;exact h.elems _ e he
  ·cases he
 rel:=fun i e j x he hx=>by
  rw [List.getElem?_take] at he
  split at he
  ·rename_i hi
   rw [List.getElem?_drop] at he
   obtain ⟨v,hv,p⟩:=h.cells _ e j x he hx
   have hj:j<sz:=by rw [← (h.elems _ e he).1];exact qd0 hx
   refine ⟨v,?_,p⟩
   rw [List.getElem?_take,if_pos (yP0 hi hj),List.getElem?_drop]
   rw [Nat.add_mul] at hv
   rw [show o*sz+(i*sz+j)=o*sz+i*sz+j by omega]
   simpa using hv
  ·cases he
theorem zp1 {B:Ns} {w0:World} {g:Gh} {h:Heap} {w:World} (hW:W B w0 g h w) {sz:Nat} {vx:Value} {es:List V} {c:Option Nat} (hg:GR g.S vx (.gsl sz es c)) :
 ∃ a cap cells,vx=.slice a es.length cap∧es.length≤cap∧(∀ (j:Nat) v,cells[j]?=some v→∃ a',a=some a'∧w.cell? (a'.add j)=some v)∧EsOk g sz cells es:=by
 cases hg with
 | gsl val hsz hc hS hcap hle hh =>
  rename_i b off cap
  refine ⟨_,cap,(List.range (es.length*sz)).map fun q=>val (q/sz) (q%sz),rfl,hle,?_,?_⟩
  ·intro j v hv
   refine ⟨_,rfl,?_⟩
   simp only [List.getElem?_map] at hv
   cases hj:(List.range (es.length*sz))[j]? with
   | none=>rw [hj] at hv;cases hv
   | some q =>
    rw [hj] at hv;cases hv
    have hjl:=qd0 hj
    simp at hjl
    rw [List.getElem?_range hjl] at hj;cases hj
    have hi:j/sz<es.length:=Nat.div_lt_of_lt_mul (by rw [Nat.mul_comm];exact hjl)
    obtain ⟨e,he⟩:=qr0 es _ hi
    obtain ⟨x,hx⟩:=qr0 e.cells (j%sz) (by rw [(hc _ _ he).1];exact Nat.mod_lt _ hsz)
    have:=jd1 (hW.shut _ _ _ (hS _ _ _ _ he hx).1) (hS _ _ _ _ he hx).2
    rw [Addr.add_mk]
    have hjj:j/sz*sz+j%sz=j:=by have:=Nat.div_add_mod j sz;rw [Nat.mul_comm] at this;exact this
    rw [Nat.add_assoc,hjj] at this;exact this
  ·refine ⟨by simp,hc,fun i e j x he hx=>?_⟩
   have hj:j<sz:=by rw [← (hc _ _ he).1];exact qd0 hx
   have hi:=qd0 he
   refine ⟨val i j,?_,(hS _ _ _ _ he hx).2,.gnd (hh _ _ _ _ he hx)⟩
   rw [List.getElem?_map,List.getElem?_range (yP0 hi hj)]
   have h1:(i*sz+j)/sz=i:=by
    rw [Nat.mul_comm,Nat.mul_add_div (by omega),Nat.div_eq_of_lt hj];rfl
   have h2:(i*sz+j)%sz=j:=by
    rw [Nat.mul_comm,Nat.mul_add_mod,Nat.mod_eq_of_lt hj]
   simp [h1,h2]
theorem KH0 {B:Ns} {w0:World} {g:Gh} {h:Heap} {w:World} (hW:W B w0 g h w) {sz:Nat} {x:V} {vx:Value} {es:List V} (_hsz:0<sz) (hx:R g vx x) (he:elems h sz x=some es) :
 ∃ a cap cells,vx=.slice a es.length cap∧es.length≤cap∧(∀ (j:Nat) v,cells[j]?=some v→∃ a',a=some a'∧w.cell? (a'.add j)=some v)∧EsOk g sz cells es:=by
 unfold elems at he
 split at he
 ·cases he
  have:=hx.nils_inv;subst this
  exact ⟨none,0,[],rfl,Nat.le_refl _,fun j v hv=>by simp at hv,.nil⟩
 ·rename_i sz' es' c
  obtain ⟨hb,he⟩:=qf0 he rfl
  cases he
  rw [Nat.beq_eq] at hb;subst hb
  exact zp1 hW hx.gsl_inv
 ·rename_i sz' es'
  obtain ⟨hb,he⟩:=qf0 he rfl
  cases he
  rw [Nat.beq_eq] at hb;subst hb
  rcases hx.osl_inv with ⟨a,rfl,rfl⟩ | hg
  ·exact ⟨a,0,[],rfl,Nat.le_refl _,fun j v hv=>by simp at hv,.nil⟩
  ·exact zp1 hW hg
 ·rename_i r ver o n c
  split at he
  ·rename_i ver' ty sz' pub cap' es' hr
   obtain ⟨hb,he⟩:=qf0 he rfl
   cases he
   simp only [Bool.and_eq_true,Nat.beq_eq,Nat.ble_eq,List.len_eq] at hb
   obtain ⟨⟨rfl,rfl⟩,hb3⟩:=hb
   change o+n≤es'.length at hb3
   obtain ⟨hv2,b,k,C,fr,hm,hrow,_⟩:=hW.row hr
   obtain ⟨a,cap,ver',rfl,hvr,hle',hn,hc,hp⟩:=hx.sl_inv
   rw [hv2] at hvr;cases hvr
   obtain ⟨k',sz',hm',ho,hsp,hok,hk⟩:=hp rfl
   rw [hm] at hm';cases hm'
   rw [List.takeN_eq,List.dropN_eq]
   have hln:((es'.drop o).take n).length=n:=by simp;omega
   rw [hln]
   refine ⟨_,cap,_,rfl,hn,?_,hrow.es hb3⟩
   intro j v hv
   refine ⟨a,rfl,?_⟩
   rw [List.getElem?_take] at hv
   split at hv
   ·rename_i hj
    rw [List.getElem?_drop] at hv
    have hnp:0<n:=by
     rcases Nat.eq_zero_or_pos n with h0 | h0
     ·rw [h0] at hj;omega
     ·exact h0
    rw [Addr.eta hsp,Addr.add_mk,ho (by omega)]
    exact Yy0 hrow.at_ (by simpa using hv)
   ·cases hv
  ·cases he
 ·cases he
theorem jg1 (s:List UInt8):mapB s=s.map QA0:=by
 induction s with
 | nil=>rfl
 | cons x s ih=>show QA0 x::mapB s=_;rw [ih];rfl
theorem Ky0 {w w':World} {a:Addr} {v:Value} (hh:w'.heap=w.heap) (h:w.cell? a=some v):w'.cell? a=some v:=by
 unfold World.cell? at *;rw [hh];exact h
theorem qH1 {P:Program} {B:Ns} {w0:World} {g:Gh} {h:Heap} {w:World} (hW:W B w0 g h w) {sz:Nat} {x:V} {vx:Value} {es:List V} (hsz:0<sz) (hx:R g vx x) (he:jJ0 h sz x=some es) :
 ∃ cells,(∀ w',(Builtin.lenOf vx).run P w'=.ok es.length w')∧(∀ w' n,n≤es.length→w'.heap=w.heap→(Builtin.firstCells sz n vx).run P w'=.ok ((cells.take (n*sz)).toArray) w')∧EsOk g sz cells es:=by
 unfold jJ0 at he
 split at he
 ·rename_i s
  obtain ⟨b,rfl,rfl⟩:=hx.str_inv
  obtain ⟨hb,he⟩:=qf0 he rfl
  cases he
  rw [Nat.beq_eq] at hb;subst hb
  refine ⟨b.data.toList.map fun c=>.int .u8 (c.toNat:Int),?_,?_,?_⟩
  ·intro w';simp [Builtin.lenOf,jg1]
  ·intro w' n hn _
   simp only [Builtin.firstCells,Sem.run_pure,Nat.mul_one]
   congr 1
   apply Array.ext'
   simp [ByteArray.data_extract,List.extract_eq_take_drop]
  ·rw [jg1]
   refine ⟨by simp,fun i e he=>?_,fun i e j x he hx=>?_⟩
   ·rw [List.getElem?_map] at he
    cases hc:b.data.toList[i]? with
    | none=>rw [hc] at he;cases he
    | some c=>rw [hc] at he;cases he;exact ⟨rfl,rfl⟩
   ·rw [List.getElem?_map] at he
    cases hc:b.data.toList[i]? with
    | none=>rw [hc] at he;cases he
    | some c =>
     rw [hc] at he;cases he
     have hj:j=0:=by have:=qd0 hx;simp [QA0,V.cells] at this;exact this
     subst hj
     cases hx
     exact ⟨.int .u8 c.toNat,by rw [Nat.mul_one,Nat.add_zero,List.getElem?_map,hc];rfl,rfl,.gnd (.int _ _)⟩
 ·obtain ⟨a,cap,cells,rfl,hcap,hat,hes⟩:=KH0 hW hsz hx he
  refine ⟨cells,fun w'=>by simp [Builtin.lenOf],fun w' n hn hh=>?_,hes⟩
  cases a with
  | none =>
   have:cells=[]:=by
    cases cells with
    | nil=>rfl
    | cons c cs=>obtain ⟨_,h,_⟩:=hat 0 c rfl;cases h
   subst this
   simp [Builtin.firstCells]
  | some a =>
   refine run_firstCells_some w' sz n a _ _ (cells.take (n*sz)) ?_ ?_
   ·rw [List.length_take,hes.size]
    have:n*sz≤es.length*sz:=Nat.mul_le_mul_right _ hn
    omega
   ·intro j v hv
    rw [List.getElem?_take] at hv
    split at hv
    ·obtain ⟨a',e,h'⟩:=hat j v hv
     cases e
     exact Ky0 hh h'
    ·cases hv
structure Grown (B:Ns) (g g':Gh):Prop where
 ext:Ext g g'
 keep:∀ b o v,B b→g'.S b o=some v→g.S b o=some v
theorem Grown.refl (B:Ns) (g:Gh):Grown B g g:=⟨Ext.refl g,fun _ _ _ _ h=>h⟩
theorem Grown.trans {B:Ns} {a b c:Gh} (h:Grown B a b) (k:Grown B b c):Grown B a c:=⟨h.ext.trans k.ext,fun _ _ _ hb e=>h.keep _ _ _ hb (k.keep _ _ _ hb e)⟩
theorem W.noS {B:Ns} {w0:World} {g:Gh} {h:Heap} {w:World} (hW:W B w0 g h w) {b o:Nat} {v:Value} (hb:w.heap.size≤b):g.S b o≠some v:=fun e=>by
 have:=je1 (hW.shut _ _ _ e);omega
theorem W.newRow {B:Ns} {w0:World} {g:Gh} {h:Heap} {w:World} (hW:W B w0 g h w) {ty sz K:Nat} {cap:Option Nat} {es:List V} {C:Array Value} (hC:C.size=K*sz) (hsz:0<sz) (hK:es.length≤K) (hcap:∀ c,cap=some c→K=c)
 (hes:∀ (i:Nat) e,es[i]?=some e→e.cells.length=sz∧e.flat=true) (hrel:∀ (i:Nat) e (j:Nat) x,es[i]?=some e→e.cells[j]?=some x→∃ v,C[i*sz+j]?=some v∧v.oneCell'=true∧R g v x) :
 W B w0 (g.new h.n (w.heap.size,K,sz) (some 0)) (AM.newRow h ty sz 0 cap es) { w with heap:=w.heap.push (.cells C ty) }:=by
 refine hW.alloc (.cells C ty) (.row 0 ty sz 0 cap es) K sz ⟨rfl,C,(0,0),⟨jl0 w _,hC,hsz,hK,Nat.zero_le _,hcap,hes,fun i e j x he hx=>?_,fun o v e=>absurd e (hW.noS (Nat.le_refl _)),.inl rfl⟩⟩
 obtain ⟨v,a,b,c⟩:=hrel i e j x he hx
 exact ⟨v,a,b,c.mono (Ext.new hW _ _)⟩
theorem Grown.new {B:Ns} {w0:World} {g:Gh} {h:Heap} {w:World} (hW:W B w0 g h w) (x:Nat×Nat×Nat) (v:Option Nat):Grown B g (g.new h.n x v):=⟨Ext.new hW x v,fun _ _ _ _ e=>e⟩
theorem R.newSl {g:Gh} {n b K sz m:Nat} (hm:m≤K):R (g.new n (b,K,sz) (some 0)) (.slice (some ⟨b,0,none⟩) m K) (.sl n 0 0 m none) :=
 .sl (ver':=0) (by simp [Gh.new]) (Nat.le_refl _) hm (fun _ e=>by cases e) fun _=>⟨K,sz,by simp [Gh.new],fun _=>by simp,rfl,by omega,fun _=>by omega⟩
theorem QQ1 {P:Program} {e:TypeId} (h:yG0 P e=true):∃ i z,P.info? e=some i∧i.zero=some z∧z.cells.size=i.size:=by
 unfold yG0 at h
 split at h
 ·rename_i i hi
  split at h
  ·rename_i z hz
   rw [Nat.beq_eq] at h
   exact ⟨i,z,hi,hz,h⟩
  ·cases h
 ·cases h
section
variable {P:Program} {w:World} {ts:Array TypeId} {ty t u e:TypeId} {d:TypeDesc} {inf:TypeInfo}
theorem qe1 (h0:ts[0]?=some t) (h1:ts[1]?=some u) (ht:P.underlying t=some (.slice e)) (hu:P.underlying u=some d) (hd:∀ k,d≠.int k) (hi:P.info? e=some inf)
 {base:Option Addr} {sLen sCap n:Nat} {x:Value} {news:List Value} (hn:∀ w',(Builtin.lenOf x).run P w'=.ok n w') (hf:(Builtin.firstCells inf.size n x).run P w=.ok news.toArray w) (hle:sLen+n≤sCap) {w':World}
 (hst:match base with | some a=>(storeCells (a.add (sLen*inf.size)) news).run P w=.ok () w' | none=>w'=w) :
 (Builtin.append_ ts ty #[.slice base sLen sCap,x]).run P w=.ok (.slice base (sLen+n) sCap) w':=by
 have step:=fun (b:Option Addr) (w':World) (hst:match b with | some a=>(storeCells (a.add (sLen*inf.size)) news).run P w=.ok () w' | none=>w'=w) =>
  show (Builtin.append_ ts ty #[.slice b sLen sCap,x]).run P w=.ok (.slice b (sLen+n) sCap) w' by
   unfold Builtin.append_
   simp only [h0,h1,List.getElem?_toArray,List.getElem?_cons_zero,List.getElem?_cons_succ,Sem.run_bind,run_underlying ht,run_underlying hu,Result.andThen_ok,Sem.run_pure]
   cases b with
   | none=>simp only at hst;subst hst;simp [sizeOf,typeInfo,hi,hn,hf,hle]
   | some a=>simp only at hst;simp [sizeOf,typeInfo,hi,hn,hf,hle,hst]
 exact step base w' hst
theorem Qg1 (h0:ts[0]?=some t) (h1:ts[1]?=some u) (ht:P.underlying t=some (.slice e)) (hu:P.underlying u=some d) (hd:∀ k,d≠.int k) (hi:P.info? e=some inf) {z:Value} (hz:inf.zero=some z)
 {base:Option Addr} {sLen sCap n:Nat} {x:Value} {olds news:List Value} (hn:∀ w',(Builtin.lenOf x).run P w'=.ok n w') (ho:(Builtin.firstCells inf.size sLen (.slice base sLen sCap)).run P w.drew=.ok olds.toArray w.drew) (hf:(Builtin.firstCells inf.size n x).run P w.drew=.ok news.toArray w.drew)
 (hlt:sCap<sLen+n) (h63:sLen+n≤9223372036854775807) (hfit:Builtin.nextslicecap (sLen+n) sCap*inf.bytes≤281474976710656) :
 (Builtin.append_ ts ty #[.slice base sLen sCap,x]).run P w=.ok (.slice (some ⟨w.heap.size,0,none⟩) (sLen+n) (grownCap w (sLen+n) sCap e))
  (w.drew.alloc (.cells (olds.toArray++news.toArray++Builtin.zeroCells z.cells (grownCap w (sLen+n) sCap e-(sLen+n))) e)):=by
 have hle:¬ (sLen+n≤sCap):=by omega
 have h63':¬ (9223372036854775807<((sLen:Int)+(n:Int))):=by omega
 have h48':¬ (281474976710656<Builtin.nextslicecap (sLen+n) sCap*inf.bytes):=by omega
 unfold Builtin.append_
 simp only [h0,h1,List.getElem?_toArray,List.getElem?_cons_zero,List.getElem?_cons_succ,Sem.run_bind,run_underlying ht,run_underlying hu,Result.andThen_ok,Sem.run_pure]
 simp [sizeOf,typeInfo,zeroValue,hi,hz,hn,hf,ho,hle,h63',h48',Question.forced,Go.newRow,grownCap]
 congr 2
 apply Array.ext'
 simp [List.append_assoc]
end
theorem Zm0 {b:Bool} {x:Rs} {y:V} {h:Heap} (e:(bif b then x else .stuck)=.val y h):b=true∧x=.val y h:=by
 cases b with
 | true=>exact ⟨rfl,e⟩
 | false=>cases e
theorem Gb1 {P:Program} {u:TypeId} (h:zo0 P u=true):∃ d,P.underlying u=some d∧∀ k,d≠.int k:=by
 unfold zo0 at h
 split at h
 ·cases h
 ·rename_i d hne hu;exact ⟨d,hu,fun k e=>hne k e⟩
 ·cases h
theorem Qr1 {P:Program} {e:TypeId} {inf:TypeInfo} (hi:P.info? e=some inf):size P e=inf.size:=by simp [size,Program.cellsOf,hi]
theorem qW1 {P:Program} {e:TypeId} {inf:TypeInfo} (hi:P.info? e=some inf):P.bytesOf e=inf.bytes:=by simp [Program.bytesOf,hi]
def zk0 (B:Ns) (w0:World) (g:Gh) (r:Result Value) (y:V) (h:Heap):Prop:=∃ v w g',r=.ok v w∧Grown B g g'∧W B w0 g' h w∧R g' v y
theorem KY0 {P:Program} {B:Ns} {w0:World} {g:Gh} {h:Heap} {w:World} (hW:W B w0 g h w) {ts:Array TypeId} {ty t u e:TypeId} {d:TypeDesc} (h0:ts[0]?=some t) (h1:ts[1]?=some u) (ht:P.underlying t=some (.slice e)) (hu:P.underlying u=some d) (hd:∀ k,d≠.int k)
 {base:Option Addr} {sLen sCap n:Nat} {x:Value} {olds news:List Value} {eo en:List V} (hn:∀ w',(Builtin.lenOf x).run P w'=.ok n w') (hen:n=en.length) (heo:sLen=eo.length) (hpos:0<size P e)
 (ho:∀ w',w'.heap=w.heap→(Builtin.firstCells (size P e) sLen (.slice base sLen sCap)).run P w'=.ok olds.toArray w') (hf:∀ w',w'.heap=w.heap→(Builtin.firstCells (size P e) n x).run P w'=.ok news.toArray w')
 (hlt:sCap<sLen+n) (hes:EsOk g (size P e) olds eo) (hes':EsOk g (size P e) news en) {y:V} {h':Heap} (hr:yl0 P h e (size P e) (sLen+n) (eo++en)=.val y h') :
 zk0 B w0 g ((Builtin.append_ ts ty #[.slice base sLen sCap,x]).run P w) y h':=by
 unfold yl0 at hr
 obtain ⟨hb,hr⟩:=Zm0 hr
 cases hr
 simp only [Bool.and_eq_true,Nat.ble_eq] at hb
 obtain ⟨⟨hb1,hb2⟩,hb3⟩:=hb
 obtain ⟨inf,z,hi,hz,hzs⟩:=QQ1 hb1
 have hsz:=Qr1 hi
 rw [qW1 hi] at hb3
 change (sLen+n)*inf.bytes≤qL0 at hb3
 have hroom:qL0=1099511627776:=rfl
 have hrun:=Qg1 (P:=P) (w:=w) (ts:=ts) (ty:=ty) h0 h1 ht hu hd hi hz hn (hsz ▸ ho w.drew rfl) (hsz ▸ hf w.drew rfl) hlt (by omega) (growslice_fits hlt (by omega))
 have hcap:=grownCap_ge w (sLen+n) sCap e
 obtain ⟨K,hK⟩:∃ K,grownCap w (sLen+n) sCap e=K:=⟨_,rfl⟩
 rw [hK] at hrun hcap
 have hesA:=hes.app hes'
 have hln:(eo++en).length=sLen+n:=by simp [heo,hen]
 refine ⟨_,_,g.new h.n (w.heap.size,K,size P e) (some 0),hrun,Grown.new hW _ _,?_,R.newSl hcap⟩
 refine W.newRow (hW.drew (w.drawn+1)) (C:=olds.toArray++news.toArray++Builtin.zeroCells z.cells (K-(sLen+n))) ?_ hpos (by omega) (fun c e=>by cases e) hesA.elems ?_
 ·have h2:=hesA.size
  rw [hln] at h2
  simp only [List.length_append] at h2
  simp only [Array.size_append,List.size_toArray,size_zeroCells,hzs,← hsz]
  rw [h2,← Nat.add_mul]
  congr 1;omega
 ·intro i e' j x' he hx
  obtain ⟨v,hv,h2,h3⟩:=hesA.rel i e' j x' he hx
  refine ⟨v,?_,h2,h3⟩
  have hlt':=qd0 hv
  rw [show olds.toArray++news.toArray=(olds++news).toArray by simp,Array.getElem?_append_left (by simpa using hlt')]
  simpa using hv
theorem W.setTail {B:Ns} {w0:World} {g:Gh} {h:Heap} {w:World} (_hW:W B w0 g h w) {r ver ty sz pub:Nat} {cap:Option Nat} {es:List V} {b k:Nat} {C:Array Value} {fr:Nat×Nat} (_hr:h.get r=.row ver ty sz pub cap es) (_hm:g.mu r=some (b,k,sz)) (hrow:RowOk g w b k sz ty pub cap es C fr)
 {q:Nat} {news:List Value} {en:List V} (hq:q≤es.length) (hpub:pub≤q) (hk:q+en.length≤k) (hen:EsOk g sz news en) :
 RowOk g (blk w b (.cells (over C (q*sz) news) ty fr)) b k sz ty pub cap (es.take q++en) (over C (q*sz) news) fr∧(∀ o v,g.S b o=some v→C[o]?=some v→(over C (q*sz) news)[o]?=some v):=by
 have hfit:q*sz+news.length≤C.size:=by
  rw [hrow.csize,hen.size,← Nat.add_mul];exact Nat.mul_le_mul_right _ hk
 have hget:=YV0 C (q*sz) news hfit
 have hln:(es.take q).length=q:=by simp;omega
 refine ⟨⟨yt0 w _ _ (zJ0 hrow.at_),by rw [YW0];exact hrow.csize,hrow.pos,by simp;omega,by simp;omega,hrow.caps,?_,?_,hrow.shut,hrow.ice⟩,?_⟩
 ·intro i e he
  rw [List.getElem?_append] at he
  split at he
  ·rw [List.getElem?_take] at he
   split at he
   ·exact hrow.elems i e he
   ·cases he
  ·exact hen.elems _ e he
 ·intro i e j x he hx
  rw [hget]
  rw [List.getElem?_append] at he
  split at he
  ·rename_i hi
   rw [hln] at hi
   rw [List.getElem?_take,if_pos hi] at he
   have hj:j<sz:=by rw [← (hrow.elems i e he).1];exact qd0 hx
   have:=yP0 hi hj
   rw [if_neg (by omega)]
   exact hrow.cells i e j x he hx
  ·rename_i hi
   rw [hln] at hi he
   obtain ⟨v,hv,p⟩:=hen.rel _ e j x he hx
   have h1:q*sz≤i*sz+j:=yD1 (by omega)
   have h2:i*sz+j-q*sz=(i-q)*sz+j:=by rw [Nat.sub_mul];have:q*sz≤i*sz:=Nat.mul_le_mul_right _ (by omega);omega
   have h3:=qd0 hv
   rw [if_pos (by omega),h2]
   exact ⟨v,hv,p⟩
 ·intro o v hS hC
  have h1:=hrow.shut o v hS
  have h2:pub*sz≤q*sz:=Nat.mul_le_mul_right _ hpub
  rw [hget,if_neg (by omega)];exact hC
theorem Qj1 {P:Program} {g:Gh} {w:World} {b k sz ty pub:Nat} {cap:Option Nat} {es:List V} {C:Array Value} {fr:Nat×Nat} (hrow:RowOk g w b k sz ty pub cap es C fr) {q:Nat} {news:List Value} {en:List V} (hpub:pub≤q) (hk:q+en.length≤k) (hen:EsOk g sz news en) :
 (storeCells ⟨b,q*sz,none⟩ news).run P w=.ok () (blk w b (.cells (over C (q*sz) news) ty fr)):=by
 have h1:(q+en.length)*sz≤k*sz:=Nat.mul_le_mul_right _ hk
 rw [Nat.add_mul] at h1
 have h2:pub*sz≤q*sz:=Nat.mul_le_mul_right _ hpub
 have h3:=hen.size
 have:=XO0 (P:=P) (b:=b) (o:=q*sz) (T:=ty) (fr:=fr) news 0 C w hrow.at_ (by rw [hrow.csize];omega) (fun v hv=>by
  obtain ⟨i,hi⟩:=List.getElem?_of_mem hv
  exact hen.one i v hi)
  (fun q' e1 e2=>by rcases hrow.ice with h | ⟨h,h'⟩ <;> omega)
 simpa using this
def Gh.bump (g:Gh) (r ver:Nat) (x:Nat×Nat×Nat):Gh:=⟨fun q=>if q=r then some x else g.mu q,fun q=>if q=r then some (ver+1) else g.vr q,g.S⟩
theorem Grown.bump {B:Ns} {g:Gh} {r ver:Nat} (x:Nat×Nat×Nat) (hv:g.vr r=some ver):Grown B g (g.bump r ver x) where
 ext:={
  S:=fun _ _ _ e=>e
  row:=fun q v hq=>by
   by_cases e:q=r
   ·subst e;rw [hv] at hq;cases hq
    exact ⟨ver+1,by simp [Gh.bump],Nat.le_succ _,fun e=>by omega⟩
   ·exact ⟨v,by simp [Gh.bump,e,hq],Nat.le_refl _,fun _=>by simp [Gh.bump,e]⟩
  obj:=fun q y hq hm=>by
   have e:q≠r:=by rintro rfl;rw [hv] at hq;cases hq
   simp [Gh.bump,e,hq,hm] }
 keep:=fun _ _ _ _ e=>e
theorem W.bump {B:Ns} {w0:World} {g:Gh} {h:Heap} {w w':World} (hW:W B w0 g h w) {r ver ty sz pub:Nat} {cap:Option Nat} {es:List V} (hr:h.get r=.row ver ty sz pub cap es) (hlow:Under B w w')
 {b' k' pub':Nat} {cap':Option Nat} {es':List V} {C':Array Value} {fr':Nat×Nat} (hrow:RowOk (g.bump r ver (b',k',sz)) w' b' k' sz ty pub' cap' es' C' fr')
 (hother:∀ q x,q≠r→g.mu q=some x→x.1≠b'∧w'.heap[x.1]?=w.heap[x.1]?) (hB:¬ B b') (hS:∀ b o v,g.S b o=some v→look w' b o=some v) :
 W B w0 (g.bump r ver (b',k',sz)) (h.set r (.row (ver+1) ty sz pub' cap' es')) w':=by
 obtain ⟨hv,b,k,C,fr,hm,_⟩:=hW.row hr
 refine hW.turn r (b',k',sz) hlow (Grown.bump (B:=B) _ hv).ext (.inl ⟨Heap.n_set _ _ _,hW.live hm⟩) (fun q e=>by simp [Gh.bump,e]) (fun q hq=>by rw [Heap.get_set,if_neg (fun e=>hq e.symm)]) (fun q e=>by simp [Gh.bump,e])
  (by simp [Gh.bump]) (by rw [Heap.get_set,if_pos rfl];simp [Gh.bump,qH0]) (fun q x hq hx=>⟨(hother q x hq hx).1,(hother q x hq hx).2,fun _ _ e=>e⟩) (by rw [Heap.get_set,if_pos rfl];exact ⟨rfl,C',fr',hrow⟩) ⟨hB,zJ0 hrow.at_⟩ hS
theorem RowOk.mono {g g':Gh} {w:World} {b k sz ty pub:Nat} {cap:Option Nat} {es:List V} {C:Array Value} {fr:Nat×Nat} (h:RowOk g w b k sz ty pub cap es C fr) (hx:Ext g g') (hS:∀ o v,g'.S b o=some v→g.S b o=some v):RowOk g' w b k sz ty pub cap es C fr :=
 ⟨h.at_,h.csize,h.pos,h.fits,h.pubs,h.caps,h.elems,fun i e j x a c=>(match h.cells i e j x a c with | ⟨v,p,q,r⟩=>⟨v,p,q,r.mono hx⟩),fun o v e=>h.shut o v (hS o v e),h.ice⟩
theorem List.app_eq' (a b:List V):List.app a b=a++b:=List.app_eq a b
theorem yO1 {l:List V}:qb0 l=true↔l=[]:=by cases l <;> simp [qb0]
theorem R.gsl_cap {g:Gh} {a:Option Addr} {n cap sz c0:Nat} {es:List V} (h:R g (.slice a n cap) (.gsl sz es (some c0))):cap=c0:=by
 have hg:=h.gsl_inv
 cases hg with
 | gsl val hsz' hc hS hcap hle hh=>exact hcap _ rfl
theorem Zj1 {P:Program} {B:Ns} {w0:World} {g:Gh} {h h':Heap} {w:World} (hW:W B w0 g h w) {t u ty:TypeId} {s x y:V} {vs vx:Value} (hs:R g vs s) (hx:R g vx x) (hu:zo0 P u=true) (ha:append P t h s x=.val y h') :
 zk0 B w0 g ((Builtin.append_ #[t,u] ty #[vs,vx]).run P w) y h':=by
 unfold append at ha
 split at ha
 ·cases ha
 ·rename_i e hse
  have ht:=zI0 hse
  obtain ⟨d,hud,hd⟩:=Gb1 hu
  split at ha
  ·cases ha
  ·rename_i new happ
   cases h0:Nat.beq (size P e) 0 with
   | true=>rw [h0] at ha;cases ha
   | false =>
    rw [h0] at ha
    have hpos:0<size P e:=by
     rcases Nat.eq_zero_or_pos (size P e) with q | q
     ·rw [q] at h0;cases h0
     ·exact q
    obtain ⟨inf,hi⟩:=yp0 hpos
    have hsz:=Qr1 hi
    obtain ⟨news,hlen,hfc,hes⟩:=qH1 (P:=P) hW hpos hx happ
    have hfull:∀ w',w'.heap=w.heap→(Builtin.firstCells (size P e) new.length vx).run P w'=.ok news.toArray w':=fun w' hh=>by
     have:=hfc w' new.length (Nat.le_refl _) hh
     rw [← hes.size,List.take_length] at this;exact this
    cases hn:qb0 new with
    | true =>
     rw [hn] at ha
     simp only [cond_true,cond_false] at ha
     rw [yO1] at hn;subst hn
     have hnews:news=[]:=by apply List.eq_nil_of_length_eq_zero;rw [hes.size];simp
     subst hnews
     have fin:∀ (base:Option Addr) (n cap:Nat),n≤cap→(Builtin.append_ #[t,u] ty #[.slice base n cap,vx]).run P w=.ok (.slice base n cap) w:=by
      intro base n cap hle
      have:=qe1 (P:=P) (w:=w) (ts:=#[t,u]) (ty:=ty) (t:=t) (u:=u) (base:=base) (sLen:=n) (sCap:=cap) (n:=0) (x:=vx) (news:=[]) rfl rfl ht hud hd hi hlen (hsz ▸ hfull w rfl) (by omega) (w':=w) (by cases base <;> simp [storeCells])
      simpa using this
     have same:∀ v,R g v y→(Builtin.append_ #[t,u] ty #[vs,vx]).run P w=.ok v w→h'=h→zk0 B w0 g ((Builtin.append_ #[t,u] ty #[vs,vx]).run P w) y h':=fun v hR hrun e=>by
      subst e;exact ⟨v,w,g,hrun,Grown.refl _ _,hW,hR⟩
     split at ha
     ·cases ha
      have:=hs.nils_inv;subst this
      exact same _ hs (fin _ _ _ (Nat.le_refl _)) rfl
     ·cases ha
      obtain ⟨a,cap,ver',rfl,_,_,hle,_⟩:=hs.sl_inv
      exact same _ hs (fin _ _ _ hle) rfl
     ·cases ha
      have hg:=hs.gsl_inv
      cases hg with
      | gsl val hsz' hc hS hcap hle hh=>exact same _ hs (fin _ _ _ hle) rfl
     ·cases ha
    | false =>
     rw [hn] at ha
     simp only [cond_false] at ha
     have hnpos:0<new.length:=by
      cases new with
      | nil=>cases hn
      | cons=>simp
     split at ha
     ·have:=hs.nils_inv;subst this
      rw [List.len_eq] at ha
      refine KY0 (ts:=#[t,u]) (t:=t) (u:=u) (eo:=[]) (olds:=[]) hW rfl rfl ht hud hd hlen rfl rfl hpos (fun w' _=>?_) hfull (by omega) .nil hes (by simpa using ha)
      exact run_firstCells_none w' _ _ _ _
     ·rename_i sz' es c
      split at ha
      ·rename_i c0
       cases hb:(Nat.beq (size P e) sz'&&Nat.blt c0 (Nat.add (List.len es) (List.len new))) with
       | false=>rw [hb] at ha;cases ha
       | true =>
        rw [hb] at ha
        simp only [Bool.and_eq_true,Nat.beq_eq,Nat.blt_eq,List.len_eq] at hb ha
        obtain ⟨hb1,hb2⟩:=hb
        obtain ⟨a,cap,olds,rfl,hcap,hat,heo⟩:=KH0 hW hpos hs (es:=es) (by simp [elems,hb1])
        have hg:=hs.gsl_inv
        have hcc:cap=c0:=R.gsl_cap hs
        rw [List.app_eq',← hb1] at ha
        refine KY0 (ts:=#[t,u]) (t:=t) (u:=u) (eo:=es) (olds:=olds) hW rfl rfl ht hud hd hlen rfl rfl hpos (fun w' hh=>?_) hfull (by rw [hcc];exact hb2) heo hes ha
        cases a with
        | none =>
         have:olds=[]:=by
          cases olds with
          | nil=>rfl
          | cons q qs=>obtain ⟨_,q1,_⟩:=hat 0 q rfl;cases q1
         subst this;exact run_firstCells_none w' _ _ _ _
        | some a=>exact run_firstCells_some w' _ _ a _ _ olds heo.size (fun j v hv=>by obtain ⟨a',q1,q2⟩:=hat j v hv;cases q1;exact Ky0 hh q2)
      ·cases ha
     ·rename_i r ver o n c
      unfold Qx0 at ha
      rw [List.len_eq] at ha
      split at ha
      ·rename_i ver2 ty2 sz2 pub cap2 es hr
       have hba:=Zm0 ha
       clear ha
       obtain ⟨hb,ha⟩:=hba
       simp only [Bool.and_eq_true,Nat.beq_eq,Nat.ble_eq,List.len_eq] at hb
       obtain ⟨⟨⟨⟨⟨rfl,rfl⟩,hon⟩,hzo⟩,hb4⟩,hb5⟩:=hb
       change o+n≤es.length at hon
       change n+new.length≤qL0 at hb4
       change (n+new.length)*P.bytesOf e≤qL0 at hb5
       obtain ⟨hv2,b,k,C,fr,hm,hrow,hhigh⟩:=hW.row hr
       obtain ⟨a,cap,ver',rfl,hvr,hle',hncap,hc,hp⟩:=hs.sl_inv
       rw [hv2] at hvr;cases hvr
       obtain ⟨k',sz',hm',ho,hsp,hok,hk⟩:=hp rfl
       rw [hm] at hm'
       simp only [Option.some.injEq,Prod.mk.injEq] at hm'
       obtain ⟨hbk,rfl,rfl⟩:=hm'
       have heo:=hrow.es hon
       have hold:∀ w',w'.heap=w.heap→(Builtin.firstCells (size P e) n (.slice (some a) n cap)).run P w'=.ok ((C.toList.drop (o*size P e)).take (n*size P e)).toArray w':=fun w' hh=>by
        have hl1:((es.drop o).take n).length=n:=by simp;omega
        refine run_firstCells_some w' _ n a n cap _ (by rw [heo.size,hl1]) (fun j v hv=>?_)
        rw [List.getElem?_take] at hv
        split at hv
        ·rename_i hj
         rw [List.getElem?_drop] at hv
         have hnp:0<n:=by
          rcases Nat.eq_zero_or_pos n with h0 | h0
          ·rw [h0] at hj;omega
          ·exact h0
         rw [Addr.eta hsp,Addr.add_mk,ho (by omega),← hbk]
         exact Ky0 hh (Yy0 hrow.at_ (by simpa using hv))
        ·cases hv
       have hln:((es.drop o).take n).length=n:=by simp;omega
       rw [List.dropN_eq,List.takeN_eq,List.app_eq',List.app_eq'] at ha
       split at ha
       ·rename_i c' hc'
        have hcap:c'=cap:=by
         split at hc'
         ·rename_i c0
          cases hc';exact (hc _ rfl).symm
         ·split at hc'
          ·rename_i k2
           cases hc'
           have h1:=hrow.caps _ rfl
           have h2:=hk rfl
           change k2-o=cap
           omega
          ·cases hc'
        subst hcap
        cases hfit:Nat.ble (Nat.add n new.length) c' with
        | true =>
         rw [hfit] at ha
         simp only [cond_true] at ha
         obtain ⟨hb6,ha⟩:=Zm0 ha
         cases ha
         rw [Nat.ble_eq] at hfit
         rw [Nat.beq_eq,List.len_eq] at hb6
         change n+new.length≤c' at hfit
         change o+n=es.length at hb6
         have hkk:o+n+new.length≤k:=by omega
         obtain ⟨hrow',hkeep⟩:=W.setTail hW hr hm hrow (q:=o+n) (news:=news) (en:=new) (by omega) (by have:=hrow.pubs;omega) hkk hes
         have hst:=Qj1 (P:=P) hrow (q:=o+n) (news:=news) (en:=new) (by have:=hrow.pubs;omega) hkk hes
         have hrun:=qe1 (P:=P) (w:=w) (ts:=#[t,u]) (ty:=ty) (t:=t) (u:=u) (base:=some a) (sLen:=n) (sCap:=c') (n:=new.length) (x:=vx) (news:=news) rfl rfl ht hud hd hi hlen (hsz ▸ hfull w rfl) hfit
          (w':=blk w b (.cells (over C ((o+n)*size P e) news) ty2 fr)) (by
           simp only
           rw [Addr.eta hsp,Addr.add_mk,ho (by omega),← hbk,← hsz,← Nat.add_mul];exact hst)
         rw [show es.take (o+n)=es by rw [hb6,List.take_length]] at hrow'
         refine ⟨_,_,g,hrun,Grown.refl _ _,hW.setRow hr hm hrow hrow' hkeep,.sl hv2 (Nat.le_refl _) hfit hc fun _=>⟨k,_,by rw [← hbk];exact hm,ho,hsp,hok,hk⟩⟩
        | false =>
         rw [hfit] at ha
         simp only [cond_false] at ha
         have hfit':¬ (n+new.length≤c'):=fun q=>by rw [show Nat.ble (Nat.add n new.length) c'=true by rw [Nat.ble_eq];exact q] at hfit;cases hfit
         exact KY0 (ts:=#[t,u]) (t:=t) (u:=u) (eo:=(es.drop o).take n) hW rfl rfl ht hud hd hlen rfl hln.symm hpos hold hfull (by omega) heo hes ha
       ·rename_i hc'
        obtain ⟨hb6,ha⟩:=Zm0 ha
        cases ha
        simp only [Bool.and_eq_true,Nat.beq_eq,Nat.ble_eq] at hb6
        obtain ⟨⟨rfl,hpub⟩,rfl⟩:=hb6
        have hcn:c=none:=by
         cases c with
         | none=>rfl
         | some c0=>cases hc'
        subst hcn
        have hk':=hk rfl
        rw [List.takeN_eq,List.app_eq']
        by_cases hfit:n+new.length≤cap
        ·have hkk:n+new.length≤k:=by omega
         obtain ⟨hrow',hkeep⟩:=W.setTail hW hr hm hrow (q:=n) (news:=news) (en:=new) (by omega) hpub hkk hes
         have hst:=Qj1 (P:=P) hrow (q:=n) (news:=news) (en:=new) hpub hkk hes
         have hrun:=qe1 (P:=P) (w:=w) (ts:=#[t,u]) (ty:=ty) (t:=t) (u:=u) (base:=some a) (sLen:=n) (sCap:=cap) (n:=new.length) (x:=vx) (news:=news) rfl rfl ht hud hd hi hlen (hsz ▸ hfull w rfl) hfit
          (w':=blk w b (.cells (over C (n*size P ty2) news) ty2 fr)) (by
           simp only
           rw [Addr.eta hsp,Addr.add_mk,ho (by omega),← hbk,← hsz,Nat.zero_mul,Nat.zero_add];exact hst)
         refine ⟨_,_,g.bump r ver (b,k,size P ty2),hrun,Grown.bump _ hv2,hW.bump hr (Under.blk w b _ (hW.high r _ hm).1) (cap':=none) ⟨hrow'.at_,hrow'.csize,hrow'.pos,hrow'.fits,hrow'.pubs,fun c e=>(by cases e),hrow'.elems,(hrow'.mono (Grown.bump (B:=B) _ hv2).ext (fun _ _ e=>e)).cells,hrow'.shut,hrow'.ice⟩ ?_ (hW.high r _ hm).1 ?_,
          .sl (ver':=ver+1) (by simp [Gh.bump]) (Nat.le_refl _) hfit (fun _ e=>by cases e) fun _=>⟨k,size P ty2,by simp [Gh.bump,hbk],fun hp=>ho hp,hsp,hok,fun _=>hk'⟩⟩
         ·intro q x' hq hx'
          have hne:x'.1≠b:=fun e=>hq (hW.inj q r x' _ hx' hm e)
          exact ⟨hne,Yt0 w b x'.1 _ hne⟩
         ·intro b' o' v hv
          by_cases e:b'=b
          ·subst e
           have h1:=hW.shut _ o' v hv
           obtain ⟨h3,h4⟩:=YP0 hrow.at_ h1
           exact ZO0 (yt0 w _ _ (zJ0 hrow.at_)) (hkeep o' v hv h3) h4
          ·rw [Gq0 _ e];exact hW.shut b' o' v hv
        ·obtain ⟨inf',z,hi',hz,hzs⟩:=QQ1 hzo
         rw [hi] at hi';cases hi'
         have hroom:qL0=1099511627776:=rfl
         rw [qW1 hi] at hb5
         have hrun:=Qg1 (P:=P) (w:=w) (ts:=#[t,u]) (ty:=ty) (t:=t) (u:=u) rfl rfl ht hud hd hi hz hlen (hsz ▸ hold w.drew rfl) (hsz ▸ hfull w.drew rfl) (by omega) (by omega) (growslice_fits (by omega) (by omega))
         rw [← hsz] at hrun
         have hcap:=grownCap_ge w (n+new.length) cap ty2
         obtain ⟨K,hK⟩:∃ K,grownCap w (n+new.length) cap ty2=K:=⟨_,rfl⟩
         rw [hK] at hrun hcap
         simp only [List.drop_zero] at hln heo hrun
         obtain ⟨L,hL⟩:∃ L,(C.toList.drop (0*size P ty2)).take (n*size P ty2)=L:=⟨_,rfl⟩
         rw [hL] at hrun heo
         have hesA:=(heo.app hes).mono (Grown.bump (B:=B) (r:=r) (ver:=ver) (w.heap.size,K,size P ty2) hv2).ext
         have hlnA:(es.take n++new).length=n+new.length:=by simp only [List.length_append,hln]
         obtain ⟨Z,hZ⟩:∃ Z,Builtin.zeroCells z.cells (K-(n+new.length))=Z:=⟨_,rfl⟩
         have hZs:Z.size=(K-(n+new.length))*size P ty2:=by rw [← hZ,size_zeroCells,hzs,← hsz]
         rw [hZ] at hrun
         refine ⟨_,_,g.bump r ver (w.heap.size,K,size P ty2),hrun,Grown.bump _ hv2,hW.bump hr (w':=w.drew.alloc _) (cap':=none) (Under.trans (b:=w.drew) ⟨rfl,rfl,rfl,Nat.le_refl _,fun _ _=>rfl⟩ (Under.push B w.drew _ hW.base)) (C':=_) (fr':=(0,0)) ⟨jl0 w.drew _,?_,hpos,by omega,by omega,fun c e=>(by cases e),hesA.elems,?_,fun o' v e=>absurd e (hW.noS (Nat.le_refl _)),.inl rfl⟩ ?_ hW.fresh ?_,
          .sl (ver':=ver+1) (by simp [Gh.bump]) (Nat.le_refl _) hcap (fun _ e=>by cases e) fun _=>⟨K,size P ty2,by simp [Gh.bump],fun _=>by simp,rfl,by omega,fun _=>by omega⟩⟩
         ·have h2:=hesA.size
          rw [hlnA] at h2
          simp only [List.length_append] at h2
          simp only [Array.size_append,List.size_toArray,hZs]
          rw [h2,← Nat.add_mul]
          congr 1;omega
         ·intro i e' j x' he hx
          obtain ⟨v,hv,h2,h3⟩:=hesA.rel i e' j x' he hx
          refine ⟨v,?_,h2,h3⟩
          have hlt':=qd0 hv
          rw [show L.toArray++news.toArray=(L++news).toArray by simp,Array.getElem?_append_left (by simpa using hlt')]
          simpa using hv
         ·intro q x' hq hx'
          have:=(hW.high q x' hx').2
          exact ⟨by omega,Xe0 w.drew _ x'.1 this⟩
         ·intro b' o' v hv
          exact Gu0 (w:=w.drew) _ (Gr0 rfl (hW.shut b' o' v hv))
      ·cases ha
     ·cases ha
structure CellsOk (g:Gh) (cs:Array Value) (vs:List V):Prop where
 size:cs.size=vs.length
 one:∀ (i:Nat) v,cs[i]?=some v→v.oneCell'=true
 rel:∀ (i:Nat) v x,cs[i]?=some v→vs[i]?=some x→R g v x
theorem CellsOk.agg {g:Gh} {cs:Array Value} {vs:List V} (h:CellsOk g cs vs):R g (.agg cs) (.agg vs):=.agg h.size h.one h.rel
theorem R.cellsOk {g:Gh} {v:Value} {x:V} (h:R g v x) (hf:x.flat=true):CellsOk g v.cells x.cells:=⟨(h.cells hf).1.1,(h.cells hf).2,(h.cells hf).1.2⟩
theorem zu2 (cs new:List V) (j i:Nat) (h:j+new.length≤cs.length):(yF0 cs j new)[i]?=if j≤i∧i<j+new.length then new[i-j]? else cs[i]?:=by
 unfold yF0
 rw [List.app_eq,List.app_eq,List.takeN_eq,List.dropN_eq,List.len_eq]
 have hl:(cs.take j).length=j:=by simp;omega
 rw [List.getElem?_append,hl,List.getElem?_append,List.getElem?_take,List.getElem?_drop]
 by_cases h1:i<j
 ·rw [if_pos h1,if_pos h1,if_neg (by omega)]
 ·rw [if_neg h1]
  by_cases h2:i<j+new.length
  ·rw [if_pos (by omega),if_pos (by omega)]
  ·rw [if_neg (by omega),if_neg (by omega)]
   congr 1
   show j+new.length+(i-j-new.length)=i
   omega
theorem zv2 (cs new:List V) (j:Nat) (h:j+new.length≤cs.length):(yF0 cs j new).length=cs.length:=by
 unfold yF0
 rw [List.app_eq,List.app_eq,List.takeN_eq,List.dropN_eq,List.len_eq]
 simp only [List.length_append,List.length_take,List.length_drop]
 show min j cs.length+(new.length+(cs.length-(j+new.length)))=cs.length
 omega
theorem CellsOk.over {g:Gh} {cs:Array Value} {vs:List V} (h:CellsOk g cs vs) {c:Array Value} {new:List V} (hc:CellsOk g c new) {off:Nat} (hfit:off+new.length≤vs.length):CellsOk g (over cs off c.toList) (yF0 vs off new):=by
 have hn:c.toList.length=new.length:=by simp [hc.size]
 have hget:=YV0 cs off c.toList (by rw [hn,h.size];exact hfit)
 refine ⟨by rw [YW0,zv2 _ _ _ hfit];exact h.size,fun i v hv=>?_,fun i v x hv hx=>?_⟩
 ·rw [hget] at hv
  split at hv
  ·exact hc.one _ v (by simpa using hv)
  ·exact h.one i v hv
 ·rw [hget] at hv
  rw [zu2 _ _ _ _ hfit] at hx
  rw [hn] at hv
  split at hv
  ·rename_i hi
   rw [if_pos hi] at hx
   exact hc.rel _ v x (by simpa using hv) hx
  ·rename_i hi
   rw [if_neg hi] at hx
   exact h.rel i v x hv hx
theorem JW1 (l:List Value) (off n:Nat) (cs:Array Value):(l.zipIdx n).foldl (fun (cs:Array Value) (p:Value×Nat)=>cs.setIfInBounds (off+p.2) p.1) cs=over cs (off+n) l:=by
 induction l generalizing n cs with
 | nil=>rfl
 | cons v l ih =>
  simp only [List.zipIdx_cons,List.foldl_cons]
  rw [ih];rfl
theorem ym1 (c:Array Value) (off:Nat) (cs:Array Value):c.zipIdx.foldl (fun cs (x,j)=>cs.setIfInBounds (off+j) x) cs=over cs off c.toList:=by
 rw [← Array.foldl_toList,Array.toList_zipIdx]
 exact JW1 c.toList off 0 cs
def PartsOk (g:Gh) (us:List (Nat×Value)) (ps:List (Nat×V)):Prop:=us.length=ps.length∧∀ (i:Nat) u p,us[i]?=some u→ps[i]?=some p→u.1=p.1∧R g u.2 p.2
theorem PartsOk.tail {g:Gh} {u:Nat×Value} {p:Nat×V} {us:List (Nat×Value)} {ps:List (Nat×V)} (h:PartsOk g (u::us) (p::ps)):u.1=p.1∧R g u.2 p.2∧PartsOk g us ps :=
 ⟨(h.2 0 u p rfl rfl).1,(h.2 0 u p rfl rfl).2,by simpa using h.1,fun i a b x y=>h.2 (i+1) a b (by simpa using x) (by simpa using y)⟩
theorem yf1 {P:Program} {g:Gh} {t:TypeId} (place:Nat→Option (Nat×Nat)) (hpl:∀ i x,Yd0 P t i=some x→place i=some x) (ps:List (Nat×V)) :
 ∀ (us:List (Nat×Value)) (cs:Array Value) (vs:List V) (r:List V),PartsOk g us ps→CellsOk g cs vs→KR0 P t ps vs=some r→∃ c,Instr.fill place cs us=some c∧CellsOk g c r:=by
 induction ps with
 | nil =>
  intro us cs vs r hp hc hr
  cases us with
  | nil=>cases hr;exact ⟨cs,rfl,hc⟩
  | cons u us=>have:=hp.1;simp at this
 | cons p ps ih =>
  intro us cs vs r hp hc hr
  cases us with
  | nil=>have:=hp.1;simp at this
  | cons u us =>
   obtain ⟨i,v⟩:=u
   obtain ⟨h1,h2,h3⟩:=hp.tail
   simp only at h1;subst h1
   change (match Yd0 P t p.1 with | some (off,sz)=>bif p.2.flat&&Nat.beq (List.len p.2.cells) sz&&Nat.ble (Nat.add off sz) (List.len vs) then KR0 P t ps (yF0 vs off p.2.cells) else none | none=>none)=some r at hr
   cases hq:Yd0 P t p.1 with
   | none=>rw [hq] at hr;cases hr
   | some x =>
    obtain ⟨off,sz⟩:=x
    rw [hq] at hr
    obtain ⟨hb,hr⟩:=qf0 hr rfl
    simp only [Bool.and_eq_true,Nat.beq_eq,Nat.ble_eq,List.len_eq] at hb
    obtain ⟨⟨hb1,hb2⟩,hb3⟩:=hb
    change off+sz≤vs.length at hb3
    have hcv:=h2.cellsOk hb1
    obtain ⟨c,e1,e2⟩:=ih us (over cs off v.cells.toList) _ r h3 (hc.over hcv (by omega)) hr
    refine ⟨c,?_,e2⟩
    simp only [Instr.fill,hpl _ _ hq]
    have hs:v.cells.size=p.2.cells.length:=hcv.size
    have hs':=hc.size
    have hcond:¬ ((decide (v.cells.size≠sz)||decide (off+v.cells.size > cs.size))=true):=by
     simp only [Bool.or_eq_true,decide_eq_true_eq,not_or];exact ⟨by omega,by omega⟩
    rw [if_neg hcond,ym1]
    exact e1
theorem qN2 {P:Program} {w:World} {α β:Type} (f:α→Sem β) (φ:α→β) (xs:Array α) (h:∀ x∈xs.toList,(f x).run P w=.ok (φ x) w):(xs.mapM f).run P w=.ok (xs.map φ) w:=by
 rw [Array.mapM_eq_mapM_toList]
 simp only [Sem.run_map]
 have key:∀ l:List α,(∀ x∈l,(f x).run P w=.ok (φ x) w)→(l.mapM f).run P w=.ok (l.map φ) w:=by
  intro l hl
  induction l with
  | nil=>simp
  | cons x l ih =>
   rw [List.mapM_cons]
   simp only [Sem.run_bind,hl x (by simp),Result.andThen_ok,ih (fun y hy=>hl y (by simp [hy])),Sem.run_pure,List.map_cons]
 rw [key _ h]
 simp only [Result.andThen_ok]
 congr 1
 apply Array.ext'
 simp
theorem Gb0 {P:Program} {t:TypeId} (h:YI0 P t=true):∃ i,P.info? t=some i:=by
 unfold YI0 at h
 split at h
 ·exact ⟨_,by assumption⟩
 ·cases h
theorem QX1 (f:Field→Bool) (l:List Field):allF f l=true↔∀ x∈l,f x=true:=by
 induction l with
 | nil=>simp only [List.not_mem_nil,false_implies,implies_true,iff_true];rfl
 | cons a l ih =>
  show (bif f a then allF f l else false)=true↔_
  cases h:f a with
  | true=>simp [ih,h]
  | false=>simp [h]
theorem ZE1 {P:Program} {w:World} {g:Gh} {t:TypeId} {us:Array (Nat×Value)} {ps:List (Nat×V)} {y:V} (hp:PartsOk g us.toList ps) (h:JF0 P t ps=some y):∃ v,(Instr.build t us).run P w=.ok v w∧R g v y:=by
 unfold JF0 at h
 split at h
 ·rename_i z hz
  obtain ⟨hb,h⟩:=qf0 h rfl
  split at h
  ·rename_i cs hcs
   cases h
   obtain ⟨i,zv,hi,hzv,hg⟩:=jA0 hz
   obtain ⟨z',rfl,hcz⟩:∃ z',zv=.agg z'∧CellsOk g z' z:=by
    have hR:R g zv (.agg z):=.gnd (hg g.S)
    obtain ⟨c,rfl,a,b,d⟩:=hR.agg_inv
    exact ⟨c,rfl,a,b,d⟩
   unfold jI1 at hb
   split at hb
   ·rename_i fs hu
    rw [QX1] at hb
    have hm:=qN2 (P:=P) (w:=w) (fun f:Field=>do pure (f.offset,← sizeOf f.type)) (fun f=>(f.offset,size P f.type)) fs (fun f hf=>by
     obtain ⟨j,hj⟩:=Gb0 (hb f hf)
     simp [za0 hj])
    obtain ⟨c,h1,h2⟩:=yf1 (P:=P) (g:=g) (t:=t) (fun i=>(fs.map fun f=>(f.offset,size P f.type))[i]?) (fun i x hx=>by
     unfold Yd0 at hx
     rw [hu] at hx
     simp only at hx
     split at hx
     ·rename_i f hf;cases hx;simp [hf]
     ·cases hx) ps us.toList z' z cs hp hcz hcs
    refine ⟨.agg c,?_,h2.agg⟩
    simp only [Instr.build,Sem.run_bind,jx0 hi hzv,Result.andThen_ok,run_underlying hu]
    simp only [Value.cells]
    rw [hm]
    simp only [Result.andThen_ok]
    rw [h1]
    simp
   ·rename_i n e hu
    obtain ⟨j,hj⟩:=Gb0 hb
    obtain ⟨c,h1,h2⟩:=yf1 (P:=P) (g:=g) (t:=t) (fun i=>some (i*size P e,size P e)) (fun i x hx=>by
     unfold Yd0 at hx
     rw [hu] at hx
     exact hx) ps us.toList z' z cs hp hcz hcs
    refine ⟨.agg c,?_,h2.agg⟩
    simp only [Instr.build,Sem.run_bind,jx0 hi hzv,Result.andThen_ok,run_underlying hu,za0 hj]
    simp only [Value.cells]
    rw [h1]
    simp
   ·cases hb
  ·cases h
 ·cases h
theorem EsOk.set {g:Gh} {sz:Nat} {C:Array Value} {es:List V} (h:EsOk g sz C.toList es) {c:Array Value} {e:V} {i:Nat} (hc:CellsOk g c e.cells) (hl:e.cells.length=sz) (hf:e.flat=true) (hi:i<es.length) :
 EsOk g sz (over C (i*sz) c.toList).toList (es.set i e):=by
 have hcl:c.toList.length=sz:=by simp [hc.size,hl]
 have hC:C.size=es.length*sz:=by simpa using h.size
 have hfit:i*sz+c.toList.length≤C.size:=by
  rw [hC,hcl]
  have:(i+1)*sz≤es.length*sz:=Nat.mul_le_mul_right _ hi
  rw [Nat.succ_mul] at this;exact this
 have hget:=YV0 C (i*sz) c.toList hfit
 refine ⟨by simp [YW0,hC],fun k x hk=>?_,fun k x j y hk hy=>?_⟩
 ·rw [List.getElem?_set] at hk
  split at hk
  ·(try rw [if_pos (by omega)] at hk);cases hk;exact ⟨hl,hf⟩
  ·exact h.elems k x hk
 ·rw [Array.getElem?_toList,hget,hcl]
  rw [List.getElem?_set] at hk
  split at hk
  ·rename_i hik
   subst hik
   (try rw [if_pos (by omega)] at hk);cases hk
   have hj:j<sz:=by rw [← hl];exact qd0 hy
   rw [if_pos (by omega),show i*sz+j-i*sz=j by omega]
   obtain ⟨v,hv⟩:=zy0 c j (by rw [hc.size];exact qd0 hy)
   exact ⟨v,by simpa using hv,hc.one j v hv,hc.rel j v y hv hy⟩
  ·rename_i hik
   have hj:j<sz:=by rw [← (h.elems k x hk).1];exact qd0 hy
   rw [if_neg]
   ·obtain ⟨v,hv,p⟩:=h.rel k x j y hk hy
    exact ⟨v,by simpa using hv,p⟩
   ·intro hcc
    have:=yE1 (i:=k) (i':=i) (j:=j) (j':=k*sz+j-i*sz) (sz:=sz) (fun e=>hik e.symm) hj (by omega)
    omega
theorem JK1 {g:Gh} {sz:Nat} (ps:List (Nat×V)) :
 ∀ (us:List (Nat×Value)) (C:Array Value) (es r:List V),PartsOk g us ps→EsOk g sz C.toList es→ZA0 sz ps es=some r→∃ c,Instr.fill (fun i=>some (i*sz,sz)) C us=some c∧EsOk g sz c.toList r∧r.length=es.length:=by
 induction ps with
 | nil =>
  intro us C es r hp hc hr
  cases us with
  | nil=>cases hr;exact ⟨C,rfl,hc,rfl⟩
  | cons u us=>have:=hp.1;simp at this
 | cons p ps ih =>
  intro us C es r hp hc hr
  cases us with
  | nil=>have:=hp.1;simp at this
  | cons u us =>
   obtain ⟨i,v⟩:=u
   obtain ⟨h1,h2,h3⟩:=hp.tail
   simp only at h1;subst h1
   obtain ⟨hb,hr⟩:=qf0 (show (bif p.2.flat&&Nat.beq (List.len p.2.cells) sz&&Nat.blt p.1 (List.len es) then ZA0 sz ps (List.setN p.2 es p.1) else none)=some r from hr) rfl
   simp only [Bool.and_eq_true,Nat.beq_eq,Nat.blt_eq,List.len_eq] at hb
   obtain ⟨⟨hb1,hb2⟩,hb3⟩:=hb
   have hcv:=h2.cellsOk hb1
   rw [List.setN_eq] at hr
   obtain ⟨c,e1,e2,e3⟩:=ih us (over C (p.1*sz) v.cells.toList) _ r h3 (hc.set hcv hb2 hb1 hb3) hr
   refine ⟨c,?_,e2,by rw [e3];simp⟩
   simp only [Instr.fill]
   have hs:v.cells.size=p.2.cells.length:=hcv.size
   have hC:C.size=es.length*sz:=by simpa using hc.size
   have hfit:p.1*sz+sz≤C.size:=by
    rw [hC]
    have:(p.1+1)*sz≤es.length*sz:=Nat.mul_le_mul_right _ hb3
    rw [Nat.succ_mul] at this;exact this
   have hcond:¬ ((decide (v.cells.size≠sz)||decide (p.1*sz+v.cells.size > C.size))=true):=by
    simp only [Bool.or_eq_true,decide_eq_true_eq,not_or];exact ⟨by omega,by omega⟩
   rw [if_neg hcond,ym1]
   exact e1
theorem qA1 {g:Gh} {zc:Array Value} {z:V} {sz n:Nat} (h:CellsOk g zc z.cells) (hl:z.cells.length=sz) (hf:z.flat=true) (_hsz:0<sz):EsOk g sz ((Array.range (n*sz)).map (zc[·%zc.size]!)).toList (List.rep z n):=by
 rw [List.rep_eq]
 have hzs:zc.size=sz:=by rw [h.size,hl]
 refine ⟨by simp,fun i e he=>?_,fun i e j x he hx=>?_⟩
 ·rw [List.getElem?_replicate] at he
  split at he
  ·cases he;exact ⟨hl,hf⟩
  ·cases he
 ·rw [List.getElem?_replicate] at he
  split at he
  ·rename_i hi
   cases he
   have hj:j<sz:=by rw [← hl];exact qd0 hx
   obtain ⟨v,hv⟩:=zy0 zc j (by omega)
   refine ⟨v,?_,h.one j v hv,h.rel j v x hv hx⟩
   have hlt:=yP0 hi hj
   simp only [Array.toList_map,List.getElem?_map,Array.toList_range,List.getElem?_range hlt,Option.map_some]
   have h2:(i*sz+j)%zc.size=j:=by
    rw [hzs,Nat.mul_comm,Nat.mul_add_mod,Nat.mod_eq_of_lt hj]
   rw [h2]
   congr 1
   simp [getElem!_def,hv]
  ·cases he
theorem zq1 {P:Program} {B:Ns} {w0:World} {g:Gh} {h:Heap} {w:World} (_hW:W B w0 g h w) {t e:TypeId} {len:Nat} {us:Array (Nat×Value)} {ps:List (Nat×V)} {z:V} {es:List V} (hp:PartsOk g us.toList ps) (hse:qo0 P t=some e) (hz:zero P e=some z)
 (h0:size P e≠0) (h1:len*size P e≤65536) (h2:z.cells.length=size P e) (h3:z.flat=true) (hf:ZA0 (size P e) ps (List.rep z len)=some es) :
 ∃ C,(Instr.buildSlice t len us).run P w=.ok (.slice (some ⟨w.heap.size,0,none⟩) len len) { w with heap:=w.heap.push (.cells C e) }∧EsOk g (size P e) C.toList es∧es.length=len:=by
 obtain ⟨i,zv,hi,hzv,hg⟩:=jA0 hz
 have hR:R g zv z:=.gnd (hg g.S)
 have hzo:=qA1 (n:=len) (hR.cellsOk h3) h2 h3 (Nat.pos_of_ne_zero h0)
 obtain ⟨c,e1,e2,e3⟩:=JK1 ps us.toList _ _ es hp hzo hf
 refine ⟨c,?_,e2,by rw [e3,List.rep_eq];simp⟩
 have hu:=zI0 hse
 have hn:¬ (len*size P e > 2^24):=by omega
 by_cases hlen:len*size P e=0
 ·have hl0:len=0:=by
   rcases Nat.mul_eq_zero.1 hlen with q | q
   ·exact q
   ·exact absurd q h0
  subst hl0
  rw [Nat.zero_mul] at e1
  simp only [Instr.buildSlice,Sem.run_bind,run_underlying hu,Result.andThen_ok,za0 hi,Nat.zero_mul,if_true]
  have hmap:∀ f:Nat→Value,(Array.range 0).map f=#[]:=fun f=>by apply Array.ext';simp
  rw [hmap] at e1
  simp [hmap,e1,Go.newRow];try rfl
 ·simp only [Instr.buildSlice,Sem.run_bind,run_underlying hu,Result.andThen_ok,za0 hi,if_neg hn,Sem.run_pure,if_neg hlen,jx0 hi hzv]
  rw [e1]
  simp [Go.newRow];try rfl
theorem qS1 {P:Program} {B:Ns} {w0:World} {g:Gh} {h h':Heap} {w:World} (hW:W B w0 g h w) {e:TypeId} {v:Value} {z y:V} (hR:R g v z) (hb:Qz0 h e z=.val y h'):zk0 B w0 g ((Instr.box e v).run P w) y h':=by
 unfold Qz0 at hb
 have hq:=Zm0 hb
 clear hb
 obtain ⟨hb,hv⟩:=hq
 cases hv
 simp only [Bool.and_eq_true,Bool.not_eq_true',List.len_eq] at hb
 obtain ⟨hf,hn⟩:=hb
 have hc:=hR.cellsOk hf
 have hpos:0<z.cells.length:=by
  rcases Nat.eq_zero_or_pos z.cells.length with q | q
  ·rw [q] at hn;cases hn
  ·exact q
 refine ⟨.pointer (some ⟨w.heap.size,0,none⟩),{ w with heap:=w.heap.push (.cells v.cells e) },g.new h.n (w.heap.size,1,z.cells.length) (some 0),?_,Grown.new hW _ _,?_,?_⟩
 ·simp [Instr.box,newVar,Go.newRow];try rfl
 ·rw [List.len_eq]
  refine hW.newRow (by rw [hc.size];omega) hpos (by simp) (fun c e=>by cases e;rfl) (fun i x hx=>?_) (fun i x j y hx hy=>?_)
  ·cases i with
   | zero=>cases hx;exact ⟨rfl,hf⟩
   | succ i=>cases hx
  ·cases i with
   | zero =>
    cases hx
    obtain ⟨u,hu⟩:=zy0 v.cells j (by rw [hc.size];exact qd0 hy)
    exact ⟨u,by simpa using hu,hc.one j u hu,hc.rel j u y hu hy⟩
   | succ i=>cases hx
 ·exact .ptr (ver':=0) (by simp [Gh.new]) (Nat.le_refl _) fun _=>⟨1,z.cells.length,by simp [Gh.new],rfl,rfl⟩
theorem Zc1 {P:Program} {B:Ns} {w0:World} {g:Gh} {h h':Heap} {w:World} (hW:W B w0 g h w) {e:TypeId} {y:V} (hb:ZX0 P h e=.val y h'):zk0 B w0 g ((Instr.alloc e true (.tuple #[])).run P w) y h':=by
 unfold ZX0 at hb
 split at hb
 ·rename_i z hz
  obtain ⟨i,zv,hi,hzv,hg⟩:=jA0 hz
  have:=qS1 (P:=P) hW (.gnd (hg g.S)) hb
  obtain ⟨v,w',g',h1,h2⟩:=this
  refine ⟨v,w',g',?_,h2⟩
  rw [← h1]
  simp [Instr.alloc,Instr.box,jx0 hi hzv]
 ·cases hb
theorem ZC1 {P:Program} {B:Ns} {w0:World} {g:Gh} {h:Heap} {w:World} (hW:W B w0 g h w) {t e:TypeId} {len:Nat} {us:Array (Nat×Value)} {ps:List (Nat×V)} {z:V} {es:List V} (hp:PartsOk g us.toList ps) (hse:qo0 P t=some e) (hz:zero P e=some z)
 (h0:size P e≠0) (h1:len*size P e≤65536) (h2:z.cells.length=size P e) (h3:z.flat=true) (hf:ZA0 (size P e) ps (List.rep z len)=some es) :
 zk0 B w0 g ((Instr.buildSlice t len us).run P w) (.sl h.n 0 0 len none) (newRow h e (size P e) 0 (some len) es):=by
 obtain ⟨C,h4,h5,h6⟩:=zq1 hW hp hse hz h0 h1 h2 h3 hf
 refine ⟨_,_,g.new h.n (w.heap.size,len,size P e) (some 0),h4,Grown.new hW _ _,hW.newRow (by rw [← h6];simpa using h5.size) (Nat.pos_of_ne_zero h0) (by omega) (fun c e=>by cases e;rfl) h5.elems (fun i x j y a b=>?_),R.newSl (Nat.le_refl _)⟩
 obtain ⟨v,p,q,r⟩:=h5.rel i x j y a b
 exact ⟨v,by simpa using p,q,r⟩
theorem qp2 {P:Program} {B:Ns} {w0:World} {g:Gh} {h:Heap} {w:World} (hW:W B w0 g h w) {t:TypeId} {s:List UInt8} {vx:Value} (hu:P.underlying t=some .string) (hR:R g vx (.str s)):zk0 B w0 g ((Instr.range t vx).run P w) (.iter h.n) (h.new (.siter s 0)):=by
 obtain ⟨b,rfl,rfl⟩:=hR.str_inv
 refine ⟨.pointer (some ⟨w.heap.size,0,none⟩),{ w with heap:=w.heap.push (.stringIter b 0) },g.new h.n (w.heap.size,0,0) none,?_,Grown.new hW _ _,?_,?_⟩
 ·simp [Instr.range,run_underlying hu];try rfl
 ·exact hW.alloc (.stringIter b 0) (.siter b.data.toList 0) 0 0 ⟨b,jl0 w _,rfl⟩
 ·exact .iter (k:=(0,0)) (by simp [Gh.new]) (by simp [Gh.new])
theorem W.setObj {B:Ns} {w0:World} {g:Gh} {h:Heap} {w:World} (hW:W B w0 g h w) {r:Nat} {x:Nat×Nat×Nat} (hm:g.mu r=some x) (hv:g.vr r=none) {o:Go.Obj} {obj:Obj} (hov:qH0 obj=none) (hobj:ObjOk g (blk w x.1 o) x obj) (hS:∀ o v,g.S x.1 o≠some v) :
 W B w0 g (h.set r obj) (blk w x.1 o):=by
 refine hW.turn r x (Under.blk w x.1 _ (hW.high r _ hm).1) (Ext.refl g) (.inl ⟨Heap.n_set _ _ _,hW.live hm⟩) (fun _ _=>rfl) (fun q hq=>by rw [Heap.get_set,if_neg (fun e=>hq e.symm)]) (fun _ _=>rfl) hm
  (by rw [Heap.get_set,if_pos rfl,hov,hv]) ?_ (by rw [Heap.get_set,if_pos rfl];exact hobj) ⟨(hW.high r _ hm).1,by rw [Kp0];exact (hW.high r _ hm).2⟩ ?_
 ·intro q y hq hy
  have hne:y.1≠x.1:=fun e=>hq (hW.inj q r y _ hy hm e)
  exact ⟨hne,Yt0 w x.1 y.1 _ hne,fun _ _ h=>h⟩
 ·intro b' o' v hv'
  have e:b'≠x.1:=fun e=>hS o' v (by rw [← e];exact hv')
  rw [Gq0 _ e];exact hW.shut b' o' v hv'
theorem Xu0 {w:World} {g:Gh} {b:Nat} {o:Go.Obj} (hsh:∀ b o v,g.S b o=some v→look w b o=some v) (hb:w.heap[b]?=some o) (ho:∀ C T fr,o≠.cells C T fr) (hm:∀ E c,o≠.map E c):∀ q v,g.S b q≠some v:=fun q v e=>by
 have h:=hsh _ _ _ e
 unfold look at h
 rw [hb] at h
 split at h
 ·rename_i e1;cases e1;exact ho _ _ _ rfl
 ·rename_i e1;cases e1;exact hm _ _ rfl
 ·cases h
theorem KT1 {P:Program} {B:Ns} {w0:World} {g:Gh} {h:Heap} {w:World} (hW:W B w0 g h w) {ty:TypeId} {r pos:Nat} {s:List UInt8} {vx:Value} (hR:R g vx (.iter r)) (hr:h.get r=.siter s pos) :
 (Nat.blt pos (List.len s)=true→zk0 B w0 g ((Instr.next vx true ty).run P w) (.tup [.bool true,.int .i64 (Int.ofNat pos),.int .i32 (Int.ofNat (Utf8.decode ⟨⟨s⟩⟩ pos).1)]) (h.set r (.siter s (Nat.add pos (Utf8.decode ⟨⟨s⟩⟩ pos).2)))) ∧
 (Nat.blt pos (List.len s)=false→zk0 B w0 g ((Instr.next vx true ty).run P w) (.tup [.bool false]) h):=by
 obtain ⟨b,k,rfl,hv,hm⟩:=hR.iter_inv
 have hobj:=hW.obj r _ hm
 rw [hr] at hobj
 obtain ⟨ba,h1,h2⟩:=hobj
 subst h2
 have hba:(⟨⟨ba.data.toList⟩⟩:ByteArray)=ba:=rfl
 have hsz:ba.data.toList.length=ba.size:=by simp
 rw [List.len_eq,hsz]
 refine ⟨fun hlt=>?_,fun hge=>?_⟩
 ·rw [Nat.blt_eq] at hlt
  rw [hba]
  refine ⟨.tuple #[.bool true,goInt pos,.int .i32 (Utf8.decode ba pos).1],blk w b (.stringIter ba (pos+(Utf8.decode ba pos).2)),g,?_,Grown.refl _ _,?_,.gnd (.tup (by simp) ?_)⟩
  ·simp [Instr.next,getObj,setObj,Sem.run,h1,hlt];try rfl
  ·exact hW.setObj hm hv rfl ⟨ba,yt0 w b _ (zJ0 h1),rfl⟩ (Xu0 hW.shut h1 (fun _ _ _ e=>by cases e) (fun _ _ e=>by cases e))
  ·intro i v x hv hx
   match i with
   | 0=>cases hv;cases hx;exact .bool _
   | 1=>cases hv;cases hx;exact .int _ _
   | 2=>cases hv;cases hx;exact .int _ _
   | n+3=>simp at hx
 ·have hge':¬ pos<ba.size:=fun q=>by rw [show Nat.blt pos ba.size=true by rw [Nat.blt_eq];exact q] at hge;cases hge
  refine ⟨.tuple #[.bool false],w,g,?_,Grown.refl _ _,hW,.gnd (.tup (by simp) ?_)⟩
  ·simp [Instr.next,getObj,Sem.run,h1,hge']
  ·intro i v x hv hx
   match i with
   | 0=>cases hv;cases hx;exact .bool _
   | n+1=>simp at hx
theorem Qp1 {w:World} {b:Nat} {C:Array Value} {T:TypeId} {fr:Nat×Nat} (h:w.heap[b]?=some (.cells C T fr)):w.shape? b=some (T,C.size):=by
 unfold World.shape?;simp [h]
theorem yj2 (k:IntKind) (n:Int):Yk0 k n=k.wrap n:=qx1 k n
theorem KA1 {es:List V} {bs:List UInt8} (h:qc0 Yv0 es=some bs):∃ ns:List Int,es=ns.map (V.int .u8)∧bs=ns.map fun n=>UInt8.ofNat n.toNat:=by
 obtain ⟨hl,hg⟩:=zH0 h
 have hn:∀ e∈es,∃ n,e=V.int .u8 n:=fun e he=>by
  obtain ⟨i,hi⟩:=List.getElem?_of_mem he
  obtain ⟨y,_,hy⟩:=hg i e hi
  obtain ⟨n,rfl,_⟩:=qU1 hy
  exact ⟨n,rfl⟩
 refine ⟨es.map fun e=>match e with | .int _ n=>n | _=>0,?_,?_⟩
 ·rw [List.map_map]
  conv=>lhs;rw [← List.map_id es]
  refine List.map_congr_left fun e he=>?_
  obtain ⟨n,rfl⟩:=hn e he
  rfl
 ·rw [List.map_map]
  apply List.ext_getElem?
  intro i
  rw [List.getElem?_map]
  cases hi:es[i]? with
  | none =>
   have:es.length≤i:=by
    rcases Nat.lt_or_ge i es.length with q | q
    ·rw [List.getElem?_eq_getElem q] at hi;cases hi
    ·exact q
   rw [List.getElem?_eq_none (by omega)];rfl
  | some e =>
   obtain ⟨y,hy,hb⟩:=hg i e hi
   obtain ⟨n,rfl,rfl⟩:=qU1 hb
   rw [hy];rfl
theorem EsOk.nums {g:Gh} {cells:List Value} {ns:List Int} (h:EsOk g 1 cells (ns.map (V.int .u8))):cells=ns.map (Value.int .u8):=by
 apply List.ext_getElem?
 intro i
 have hl:cells.length=ns.length:=by have:=h.size;simpa using this
 cases hi:ns[i]? with
 | none =>
  have:ns.length≤i:=by
   rcases Nat.lt_or_ge i ns.length with q | q
   ·rw [List.getElem?_eq_getElem q] at hi;cases hi
   ·exact q
  rw [List.getElem?_eq_none (by omega),List.getElem?_eq_none (by simpa using this)]
 | some n =>
  obtain ⟨v,hv,_,hR⟩:=h.rel i (.int .u8 n) 0 (.int .u8 n) (by simp [hi]) rfl
  rw [Nat.mul_one,Nat.add_zero] at hv
  rw [hv,hR.int_inv];simp [hi]
theorem ZK1 {P:Program} {B:Ns} {w0:World} {g:Gh} {h:Heap} {w:World} (hW:W B w0 g h w) {x:V} {vx:Value} {es:List V} {bs:List UInt8} (hx:R g vx x) (he:elems h 1 x=some es) (hb:qc0 Yv0 es=some bs) :
 ∃ a n c,vx=.slice a n c∧∃ s,(Conv.bytesToString vx).run P w=.ok (.string s) w∧s.data.toList=bs:=by
 obtain ⟨a,cap,cells,rfl,hcap,hat,hes⟩:=KH0 hW (by omega) hx he
 obtain ⟨ns,rfl,rfl⟩:=KA1 hb
 refine ⟨_,_,_,rfl,?_⟩
 have hcells:=hes.nums
 cases a with
 | none =>
  have:ns=[]:=by
   cases ns with
   | nil=>rfl
   | cons n ns=>rw [hcells] at hat;obtain ⟨_,q,_⟩:=hat 0 _ rfl;cases q
  subst this
  exact ⟨.empty,by simp [Conv.bytesToString],rfl⟩
 | some a =>
  have hl:(loadCells a (ns.map (V.int .u8)).length).run P w=.ok (ns.map (Value.int .u8)).toArray w:=by
   have:=run_loadCells_list (P:=P) w a cells (fun j v hv=>by obtain ⟨a',q,q'⟩:=hat j v hv;cases q;exact q')
   rw [hcells] at this
   simpa using this
  refine ⟨_,run_bytesToString w a _ cap ns hl,?_⟩
  rw [foldl_push_bytes]
  simp [ByteArray.empty,ByteArray.emptyWithCapacity]
  try rfl
theorem GV1 {P:Program} {B:Ns} {w0:World} {g:Gh} {h:Heap} {w:World} (hW:W B w0 g h w) {src dst t:TypeId} {r v o:Nat} {vx:Value} (hx:R g vx (.ptr r v o)) (hs:P.underlying src=some (.pointer t)) (hd:P.underlying dst=some .unsafePointer)
 (hp:GP0 h r v o=true) (hz:1≤size P t):(Go.convert src dst vx).run P w=.ok vx w:=by
 obtain ⟨a,ver',rfl,hvr,hle,hpp⟩:=hx.ptr_inv
 unfold GP0 at hp
 split at hp
 ·rename_i ver ty sz pub cap es hr
  simp only [Bool.and_eq_true,Nat.beq_eq,Nat.blt_eq,List.len_eq] at hp
  obtain ⟨rfl,hlt⟩:=hp
  obtain ⟨hv2,b,k,C,fr,hm,hrow,_⟩:=hW.row hr
  rw [hv2] at hvr;cases hvr
  obtain ⟨k',sz',hm',ho,hsp⟩:=hpp rfl
  rw [hm] at hm';cases hm'
  obtain ⟨inf,hi⟩:=yp0 hz
  have hshape:=Qp1 hrow.at_
  have hlt':a.off<C.size:=by
   rw [hrow.csize]
   have:es.length*sz≤k*sz:=Nat.mul_le_mul_right _ hrow.fits
   change o<es.length*sz at hlt
   omega
  have hnz:size P t≠0:=by omega
  simp [Go.convert,run_underlying hs,run_underlying hd,Conv.unsafePointer,Conv.seenAt,viewAt,hshape,cellsIn,za0 hi,hnz]
  intro q;omega
 ·cases hp
theorem JH1 {P:Program} {ty:TypeId} {r:Nat} {u:TypeId} (h:KQ0 P ty r u=true):∃ fs,P.underlying ty=some (.struct fs)∧P.stoodInHeld ty=false∧∃ f,f∈fs∧f.offset=r∧1≤P.cellsOf f.type∧sameLayout P P.depth f.type u=true:=by
 unfold KQ0 at h
 split at h
 ·rename_i fs hu
  simp only [Bool.and_eq_true,Bool.not_eq_true'] at h
  obtain ⟨h1,h2⟩:=h
  have key:∀ l:List Field,(List.rec (motive:=fun _=>Bool) false (fun f _ ih=>bif Nat.beq f.offset r&&Nat.ble 1 (size P f.type)&&sameLayout P P.depth f.type u then true else ih) l:Bool)=true→∃ f,f∈l∧f.offset=r∧1≤P.cellsOf f.type∧sameLayout P P.depth f.type u=true:=by
   intro l
   induction l with
   | nil=>intro q;cases q
   | cons f l IH =>
    intro q
    change (bif Nat.beq f.offset r&&Nat.ble 1 (size P f.type)&&sameLayout P P.depth f.type u then true else _)=true at q
    cases hc:(Nat.beq f.offset r&&Nat.ble 1 (size P f.type)&&sameLayout P P.depth f.type u) with
    | true =>
     simp only [Bool.and_eq_true,Nat.beq_eq,Nat.ble_eq] at hc
     exact ⟨f,List.mem_cons_self,hc.1.1,hc.1.2,hc.2⟩
    | false =>
     rw [hc] at q
     obtain ⟨g,hg,hh⟩:=IH q
     exact ⟨g,List.mem_cons_of_mem _ hg,hh⟩
  obtain ⟨f,hf,hh⟩:=key _ h2
  exact ⟨fs,hu,h1,f,by simpa using hf,hh⟩
 ·cases h
theorem GU1 {P:Program} {B:Ns} {w0:World} {g:Gh} {h:Heap} {w:World} (hW:W B w0 g h w) {src dst u:TypeId} {r v o:Nat} {vx:Value} (hx:R g vx (.ptr r v o)) (hs:P.underlying src=some .unsafePointer) (hd:P.underlying dst=some (.pointer u))
 (hp:GQ0 P h r v o u=true):(Go.convert src dst vx).run P w=.ok vx w:=by
 obtain ⟨a,ver',rfl,hvr,hle,hpp⟩:=hx.ptr_inv
 unfold GQ0 at hp
 split at hp
 ·rename_i ver ty sz pub cap es hr
  simp only [Bool.and_eq_true,Bool.or_eq_true,Nat.beq_eq,Nat.blt_eq,Nat.ble_eq,List.len_eq] at hp
  obtain ⟨⟨⟨⟨⟨rfl,hsz⟩,hlay⟩,hlt⟩,hdep⟩,hinf⟩:=hp
  obtain ⟨hv2,b,k,C,fr,hm,hrow,_⟩:=hW.row hr
  rw [hv2] at hvr;cases hvr
  obtain ⟨k',sz',hm',ho,hsp⟩:=hpp rfl
  rw [hm] at hm';cases hm'
  obtain ⟨inf,hi⟩:=Gb0 hinf
  have hshape:=Qp1 hrow.at_
  change o/sz<es.length at hlt
  have hcnt:C.size/sz=k:=by rw [hrow.csize];exact Nat.mul_div_cancel k hrow.pos
  have hcell:P.cellsOf ty=sz:=hsz
  have h0:¬ sz=0:=by have:=hrow.pos;omega
  have h1:o/sz+1≤k:=by have:=hrow.fits;omega
  have hrowAt:∀ d,2≤d→rowAt P (fun x=>sameLayout P P.depth x u) d ty k a.off 1=true:=by
   intro d hd
   obtain ⟨d,rfl⟩:∃ d',d=d'+2:=⟨d-2,by omega⟩
   rcases hlay with ⟨hmod,hlay⟩ | hlay
   ·change o%sz=0 at hmod
    simp only [rowAt,hcell,if_neg h0,ho,hmod,hlay]
    simp [h1]
   ·obtain ⟨fs,hu,hst,f,hf,hfo,hfc,hfl⟩:=JH1 hlay
    change f.offset=o%sz at hfo
    have hin:rowAt P (fun x=>sameLayout P P.depth x u) (d+1) f.type 1 (o%sz-f.offset) 1=true:=by
     have e:o%sz-f.offset=0:=by omega
     have h2:¬ P.cellsOf f.type=0:=by omega
     rw [e]
     simp only [rowAt,if_neg h2,Nat.zero_div,Nat.zero_mod,hfl]
     rfl
    rw [rowAt]
    simp only [hcell,if_neg h0,ho,hu,hst]
    rw [Bool.or_eq_true]
    refine .inr ?_
    simp only [Bool.and_eq_true,decide_eq_true_eq,Bool.not_false,true_and]
    refine ⟨by omega,?_⟩
    rw [Array.any_eq_true]
    obtain ⟨i,hi,e⟩:=Array.mem_iff_getElem.1 hf
    refine ⟨i,hi,?_⟩
    rw [e]
    simp only [Bool.and_eq_true,decide_eq_true_eq]
    exact ⟨⟨by omega,by omega⟩,hin⟩
  have hlies:liesAt P P.depth ty k a.off u 1=true:=by
   cases hd':P.depth with
   | zero=>rw [hd'] at hdep;omega
   | succ d =>
    have:=hrowAt P.depth hdep
    rw [hd'] at this
    unfold liesAt
    rw [hd']
    simp only [this,Bool.true_or]
  have hva:∀ w',w'=w→(variablesAt a u 1).run P w'=.ok true w':=fun w' e=>by
   subst e;simp [variablesAt,hshape,hcell,hcnt,hlies]
  simp [Go.convert,run_underlying hs,run_underlying hd,Conv.unsafePointer,Conv.seenAt,viewAt,hshape,za0 hi,hva w rfl]
 ·cases hp
theorem XM1 {P:Program} {e:TypeId} (h:isU8 P e=true):P.underlying e=some (.int .u8):=by
 unfold isU8 at h
 split at h
 ·assumption
 ·cases h
theorem Ye1 {P:Program} {B:Ns} {w0:World} {g:Gh} {h:Heap} {w:World} (hW:W B w0 g h w) {src dst:TypeId} {x y:V} {vx:Value} (hx:R g vx x) (hc:AM.convert P src dst h x=some y):∃ v,(Go.convert src dst vx).run P w=.ok v w∧R g v y:=by
 unfold AM.convert at hc
 split at hc
 ·cases hc
 ·rename_i s hs
  split at hc
  ·cases hc
  ·rename_i d hd
   split at hc
   ·rename_i k n
    have:=hx.int_inv;subst this
    split at hc
    ·cases hc
     refine ⟨_,?_,.gnd (.int _ _)⟩
     simp [Go.convert,run_underlying hs,run_underlying hd,Conv.intToInt,yj2]
    ·split at hc
     ·cases hc
      refine ⟨.string (Utf8.encode n),?_,.gnd (.str rfl)⟩
      simp [Go.convert,run_underlying hs,run_underlying hd,Conv.intToString]
     ·cases hc
    ·cases hc
   ·rename_i k0 m r
    obtain ⟨N,rfl,hN,rfl⟩:=hx.imod_inv
    split at hc
    ·rename_i k
     cases hk:zh0 k .i8 with
     | true=>rw [hk] at hc;cases hc
     | false =>
      rw [hk] at hc
      cases hc
      have hw:k.wrap (N:Int)=(N:Int):=by
       refine qy1 k _ ?_ ?_
       ·cases k <;> simp [IntKind.min,IntKind.signed,IntKind.bits] <;> omega
       ·cases k <;> first | (cases hk;done) | (simp [IntKind.max,IntKind.signed,IntKind.bits];omega)
      refine ⟨.int k (N:Int),?_,.imod hN rfl⟩
      simp [Go.convert,run_underlying hs,run_underlying hd,Conv.intToInt,hw]
    ·cases hc
   ·obtain ⟨b,rfl,rfl⟩:=hx.str_inv
    split at hc
    ·cases hc
     exact ⟨.string b,by simp [Go.convert,run_underlying hs,run_underlying hd],hx⟩
    ·cases hc
   ·split at hc
    ·obtain ⟨hb,hc⟩:=qf0 hc rfl
     cases hc
     exact ⟨vx,GU1 hW hx hs hd hb,hx⟩
    ·obtain ⟨hb,hc⟩:=qf0 hc rfl
     cases hc
     simp only [Bool.and_eq_true,Nat.ble_eq] at hb
     exact ⟨vx,GV1 hW hx hs hd hb.1 hb.2,hx⟩
    ·cases hc
   ·split at hc
    ·rename_i e
     split at hc
     ·rename_i es hu he
      split at hc
      ·rename_i bs hbs
       cases hc
       obtain ⟨a,n,c,rfl,str,h1,h2⟩:=ZK1 (P:=P) hW hx he hbs
       exact ⟨.string str,by rw [run_convert_bytes_string w src dst e a n c hs (XM1 hu) hd];exact h1,.gnd (.str h2)⟩
      ·cases hc
     ·cases hc
    ·cases hc
variable {P:Program} {B:Ns} {w0:World} {g:Gh} {h:Heap} {w:World}
theorem jF1 (hW:W B w0 g h w) {r ver ty sz pub:Nat} {cap:Option Nat} {es:List V} {b k:Nat} {C:Array Value} {fr:Nat×Nat} (hr:h.get r=.row ver ty sz pub cap es) (hm:g.mu r=some (b,k,sz)) (hrow:RowOk g w b k sz ty pub cap es C fr)
 {o:Nat} {cells:List Value} {new:List V} (hes:EsOk g sz cells new) (hfit:o+new.length≤es.length) (hpub:pub≤o) :
 (storeCells ⟨b,o*sz,none⟩ cells).run P w=.ok () (blk w b (.cells (over C (o*sz) cells) ty fr)) ∧
  W B w0 g (h.set r (.row ver ty sz pub cap (es.take o++(new++es.drop (o+new.length))))) (blk w b (.cells (over C (o*sz) cells) ty fr)):=by
 have hend:o*sz+cells.length≤C.size:=by
  rw [hrow.csize,hes.size]
  have:(o+new.length)*sz≤k*sz:=Nat.mul_le_mul_right _ (Nat.le_trans hfit hrow.fits)
  rw [Nat.add_mul] at this;exact this
 have hlow:pub*sz≤o*sz:=Nat.mul_le_mul_right _ hpub
 have hone:∀ v∈cells,v.oneCell'=true:=fun v hv=>by
  obtain ⟨i,hi⟩:=List.getElem?_of_mem hv
  exact hes.one i v hi
 have hrun:=XO0 (P:=P) (b:=b) (o:=o*sz) (T:=ty) (fr:=fr) cells 0 C w hrow.at_ (by simpa using hend) hone (fun q h1 h2=>by rcases hrow.ice with h | ⟨h,h'⟩ <;> omega)
 refine ⟨by simpa using hrun,?_⟩
 have hget:=YV0 C (o*sz) cells hend
 have hel:∀ (i:Nat),(es.take o++(new++es.drop (o+new.length)))[i]?=if i<o then es[i]? else if i<o+new.length then new[i-o]? else es[i]?:=by
  intro i
  have hl:(es.take o).length=o:=by simp;omega
  rw [List.getElem?_append,hl]
  by_cases h1:i<o
  ·rw [if_pos h1,if_pos h1,List.getElem?_take,if_pos h1]
  ·rw [if_neg h1,if_neg h1,List.getElem?_append]
   by_cases h2:i<o+new.length
   ·rw [if_pos (by omega),if_pos h2]
   ·rw [if_neg (by omega),if_neg h2,List.getElem?_drop]
    congr 1;omega
 refine hW.setRow hr hm hrow ⟨yt0 w _ _ (zJ0 hrow.at_),by rw [YW0];exact hrow.csize,hrow.pos,?_,?_,hrow.caps,?_,?_,hrow.shut,hrow.ice⟩ ?_
 ·have:=hrow.fits;simp only [List.length_append,List.length_take,List.length_drop];omega
 ·have:=hrow.pubs;simp only [List.length_append,List.length_take,List.length_drop];omega
 ·intro i e he
  rw [hel] at he
  split at he
  ·exact hrow.elems i e he
  ·split at he
   ·exact hes.elems _ e he
   ·exact hrow.elems i e he
 ·intro i e j x he hx
  rw [hel] at he
  rw [hget]
  split at he
  ·rename_i hi
   have hj:j<sz:=by rw [← (hrow.elems i e he).1];exact qd0 hx
   have:=yP0 hi hj
   rw [if_neg (by omega)]
   exact hrow.cells _ _ _ _ he hx
  ·rename_i hi
   split at he
   ·rename_i hi2
    have hj:j<sz:=by rw [← (hes.elems _ e he).1];exact qd0 hx
    have e1:i*sz+j-o*sz=(i-o)*sz+j:=by
     have:i*sz=(i-o)*sz+o*sz:=by rw [← Nat.add_mul];congr 1;omega
     omega
    have h3:o*sz≤i*sz:=Nat.mul_le_mul_right _ (by omega)
    have h4:(i-o)*sz+j<new.length*sz:=yP0 (by omega) hj
    rw [hes.size,if_pos (by omega),e1]
    exact hes.rel _ _ _ _ he hx
   ·rename_i hi2
    have h3:(o+new.length)*sz≤i*sz:=Nat.mul_le_mul_right _ (by omega)
    rw [Nat.add_mul] at h3
    rw [hes.size,if_neg (by omega)]
    exact hrow.cells _ _ _ _ he hx
 ·intro q v hv hc
  have:=hrow.shut q v hv
  rw [hget,if_neg (by omega)];exact hc
theorem XS0 (hW:W B w0 g h w) {v:Value} {r ver o n ver' ty sz pub:Nat} {c cap:Option Nat} {es:List V} (hR:R g v (.sl r ver o n c)) (hr:h.get r=.row ver' ty sz pub cap es) (hv:ver=ver') :
 ∃ a cp b k C fr,v=.slice (some a) n cp∧n≤cp∧(∀ c',c=some c'→cp=c')∧a.block=b∧a.spot=none∧(0<cp→a.off=o*sz)∧o+cp≤k∧(c=none→o+cp=k)∧g.mu r=some (b,k,sz)∧RowOk g w b k sz ty pub cap es C fr:=by
 subst hv
 obtain ⟨hv2,b,k,C,fr,hm,hrow,_⟩:=hW.row hr
 obtain ⟨a,cp,vr',rfl,hvr,hle',hn,hc,hp⟩:=hR.sl_inv
 rw [hv2] at hvr;cases hvr
 obtain ⟨k',sz',hm',ho,hsp,hok,hk⟩:=hp rfl
 rw [hm] at hm'
 simp only [Option.some.injEq,Prod.mk.injEq] at hm'
 obtain ⟨hb',rfl,rfl⟩:=hm'
 exact ⟨a,cp,b,k,C,fr,rfl,hn,hc,hb'.symm,hsp,ho,hok,hk,hm,hrow⟩
def ValR (B:Ns) (w0:World) (g:Gh) (r:Result Value):Rs→Prop
 | .val y h=>zk0 B w0 g r y h
 | .stuck=>True
 | _=>False
theorem ValR.bif {b:Bool} {r:Result Value} {x:Rs} (h:b=true→ValR B w0 g r x):ValR B w0 g r (bif b then x else .stuck):=by
 cases b with
 | true=>exact h rfl
 | false=>trivial
theorem Zo1 (hW:W B w0 g h w) {t ty:TypeId} {ts:List TypeId} {v:Value} {x:V} (hR:R g v x):ValR B w0 g ((Builtin.cap_ (t::ts).toArray ty [v].toArray).run P w) (bCap P t h x):=by
 unfold bCap
 cases ht:qX0 P t with
 | false=>trivial
 | true =>
  obtain ⟨e,hu⟩:=ZH0 ht
  have run:∀ a n c,v=.slice a n c→(Builtin.cap_ (t::ts).toArray ty [v].toArray).run P w=.ok (.int .i64 (Int.ofNat c)) w:=by
   rintro a n c rfl
   simp [Builtin.cap_,run_underlying hu,goInt]
  simp only [Bool.not_true,cond_false]
  split
  ·have:=hR.nils_inv
   exact ⟨_,w,g,run _ _ _ this,Grown.refl _ _,hW,.gnd (.int _ _)⟩
  ·rename_i r ver o n c
   split
   ·rename_i c
    obtain ⟨a,cp,ver',e,_,_,_,hc,_⟩:=hR.sl_inv
    have:=hc c rfl;subst this
    exact ⟨_,w,g,run _ _ _ e,Grown.refl _ _,hW,.gnd (.int _ _)⟩
   ·split
    ·rename_i ver' ty' sz pub cap es hr
     split
     ·rename_i k
      refine .bif fun hv=>?_
      rw [Nat.beq_eq] at hv
      obtain ⟨a,cp,b,k',C,fr,e,hn,hc,hb,hs,ho,hk,hk',hm,hrow⟩:=XS0 hW hR hr hv
      have h1:=hrow.caps k rfl
      have h2:=hk' rfl
      have h3:cp=Nat.sub k o:=by show cp=k-o;omega
      subst h3
      exact ⟨_,w,g,run _ _ _ e,Grown.refl _ _,hW,.gnd (.int _ _)⟩
     ·trivial
    ·trivial
  ·trivial
theorem Zr1 (hW:W B w0 g h w) {ts:Array TypeId} {ty:TypeId} {v:Value} {x:V} (hR:R g v x):ValR B w0 g ((Builtin.unsafeSliceData_ ts ty #[v]).run P w) (Ys0 h x):=by
 unfold Ys0
 split
 ·have:=hR.nils_inv;subst this
  exact ⟨_,w,g,Lib.run_unsafeSliceData_nil w ts ty 0 0,Grown.refl _ _,hW,.gnd .nilp⟩
 ·rename_i r ver o n c
  split
  ·rename_i ver' ty' sz pub cap es hr
   refine .bif fun hv=>?_
   simp only [Bool.and_eq_true,Nat.beq_eq,Nat.blt_eq] at hv
   obtain ⟨⟨hv,hn0⟩,_⟩:=hv
   obtain ⟨a,cp,b,k',C,fr,rfl,hn,hc,hb,hs,ho,hk,hk',hm,hrow⟩:=XS0 hW hR hr hv
   subst hv
   have hvr:g.vr r=some ver:=by rw [hW.ver',hr];rfl
   refine ⟨_,w,g,Lib.run_unsafeSliceData_row w ts ty a n cp (by omega),Grown.refl _ _,hW,.ptr hvr (Nat.le_refl _) fun _=>⟨k',sz,by rw [hb];exact hm,ho (by omega),hs⟩⟩
  ·trivial
 ·trivial
theorem EsOk.take {sz:Nat} {cells:List Value} {es:List V} (hes:EsOk g sz cells es) (n:Nat):EsOk g sz (cells.take (n*sz)) (es.take n) where
 size:=by
  rw [List.length_take,List.length_take,hes.size]
  rcases Nat.le_total n es.length with h | h
  ·have:n*sz≤es.length*sz:=Nat.mul_le_mul_right _ h
   rw [Nat.min_eq_left this,Nat.min_eq_left h]
  ·have:es.length*sz≤n*sz:=Nat.mul_le_mul_right _ h
   rw [Nat.min_eq_right this,Nat.min_eq_right h]
 elems:=fun i e he=>by
  rw [List.getElem?_take] at he
  split at he
  ·exact hes.elems i e he
  ·cases he
 rel:=fun i e j x he hx=>by
  rw [List.getElem?_take] at he
  split at he
  ·rename_i hi
   obtain ⟨v,hv,p⟩:=hes.rel i e j x he hx
   have hj:j<sz:=by rw [← (hes.elems i e he).1];exact qd0 hx
   exact ⟨v,by rw [List.getElem?_take,if_pos (yP0 hi hj)];exact hv,p⟩
  ·cases he
theorem Yf1 (hW:W B w0 g h w) {t ty:TypeId} {ts:List TypeId} {v v':Value} {d x:V} (hR:R g v d) (hx:R g v' x):ValR B w0 g ((Builtin.copy_ (t::ts).toArray ty [v,v'].toArray).run P w) (AM.copy P t h d x):=by
 unfold AM.copy
 split
 ·trivial
 ·rename_i e he
  have hu:=zI0 he
  obtain ⟨inf,hinf⟩:∃ i,P.info? e=some i∨size P e=0:=by
   cases hi:P.info? e with
   | some i=>exact ⟨i,.inl rfl⟩
   | none=>exact ⟨default,.inr (by simp [size,Program.cellsOf,hi])⟩
  cases hz:Nat.beq (size P e) 0 with
  | true=>trivial
  | false =>
   have hz0:size P e≠0:=fun q=>by rw [q] at hz;cases hz
   have hinf:P.info? e=some inf:=by rcases hinf with h | h;exact h;exact absurd h hz0
   simp only [cond_false]
   split
   ·trivial
   ·rename_i new hnew
    obtain ⟨cells,hlen,hfirst,hes⟩:=qH1 (P:=P) hW (by omega) hx hnew
    have run:∀ a dn cp,v=.slice a dn cp→(Builtin.copy_ (t::ts).toArray ty [v,v'].toArray).run P w=((match a with | some a=>storeCells a (cells.take (Nat.min new.length dn*size P e)) | none=>pure ()) >>= fun _=>pure (goInt (Nat.min new.length dn)):Sem Value).run P w:=by
     rintro a dn cp rfl
     have h1:=hlen w
     have h2:=hfirst w (Nat.min new.length dn) (Nat.min_le_left _ _) rfl
     simp only [Builtin.copy_,List.getElem?_toArray,List.getElem?_cons_zero,List.getElem?_cons_succ,Sem.run_bind,run_underlying hu,Result.andThen_ok,h1,za0 hinf,h2]
     cases a <;> simp
    split
    ·have e:=hR.nils_inv
     refine ⟨_,w,g,(run _ _ _ e).trans ?_,Grown.refl _ _,hW,.gnd (.int _ _)⟩
     simp [goInt]
    ·rename_i r ver o dn c
     split
     ·rename_i ver' ty' sz pub cap es hr
      refine .bif fun hv=>?_
      simp only [Bool.and_eq_true,Nat.beq_eq,Nat.ble_eq,List.len_eq] at hv
      obtain ⟨⟨⟨hv,hpub⟩,hsz⟩,hfit⟩:=hv
      obtain ⟨a,cp,b,k',C,fr,e1,hn,hc,hb,hs,ho,hk,hk',hm,hrow⟩:=XS0 hW hR hr hv
      have hfit:o+dn≤es.length:=hfit
      subst hsz
      have hmin:Nat.min new.length dn=(new.take dn).length:=by rw [List.length_take];exact Nat.min_comm _ _
      have htk:EsOk g (size P e) (cells.take (Nat.min new.length dn*size P e)) (new.take dn):=by
       have:=hes.take dn
       have e2:cells.take (dn*size P e)=cells.take (Nat.min new.length dn*size P e):=by
        rcases Nat.le_total new.length dn with hq | hq
        ·have h3:new.length*size P e≤dn*size P e:=Nat.mul_le_mul_right _ hq
         rw [show Nat.min new.length dn=new.length from Nat.min_eq_left hq,List.take_of_length_le (by rw [hes.size];exact h3),List.take_of_length_le (by rw [hes.size];omega)]
        ·rw [show Nat.min new.length dn=dn from Nat.min_eq_right hq]
       rw [← e2];exact this
      obtain ⟨hrun,hW'⟩:=jF1 (P:=P) hW hr hm hrow htk (by rw [List.length_take];omega) hpub
      rw [List.takeN_eq,List.app_eq,List.app_eq,List.takeN_eq,List.dropN_eq,List.len_eq]
      have e3:Nat.add o (Nat.min dn new.length)=o+(new.take dn).length:=by rw [List.length_take];rfl
      rw [e3]
      refine ⟨goInt (Nat.min new.length dn),_,g,(run _ _ _ e1).trans ?_,Grown.refl _ _,by subst hv;exact hW',?_⟩
      ·have hst:(storeCells a (cells.take (Nat.min new.length dn*size P e))).run P w=.ok () (blk w b (.cells (over C (o*size P e) (cells.take (Nat.min new.length dn*size P e))) ty' fr)):=by
        rcases Nat.eq_zero_or_pos cp with h0 | h0
        ·have:Nat.min new.length dn=0:=by rw [show dn=0 by omega];exact Nat.min_zero _
         rw [this,Nat.zero_mul,List.take_zero]
         simp only [storeCells,over]
         rw [qP1 w b _ hrow.at_];rfl
        ·have:a=⟨b,o*size P e,none⟩:=by rw [Addr.eta hs,hb,ho h0]
         rw [this];exact hrun
       simp [hst]
      ·have:Nat.min dn new.length=Nat.min new.length dn:=Nat.min_comm _ _
       rw [this];exact .gnd (.int _ _)
     ·trivial
    ·trivial
theorem yl2 (z:Array Value) (n i j:Nat) (hi:i<n) (hj:j<z.size):(Builtin.zeroCells z n)[i*z.size+j]?=z[j]?:=by
 unfold Builtin.zeroCells
 have h1:i*z.size+j<n*z.size:=yP0 hi hj
 have h2:(i*z.size+j)%z.size=j:=by rw [Nat.mul_comm,Nat.mul_add_mod,Nat.mod_eq_of_lt hj]
 simp [h1,h2,hj]
theorem ym2 {zv:Value} {z:V} {sz:Nat} (hR:R g zv z) (hf:z.flat=true) (hsz:z.cells.length=sz) (n:Nat):EsOk g sz (Builtin.zeroCells zv.cells n).toList (List.replicate n z):=by
 obtain ⟨⟨hn,hrel⟩,h1⟩:=hR.cells hf
 refine ⟨?_,fun i e he=>?_,fun i e j x he hx=>?_⟩
 ·simp [size_zeroCells,hn,hsz]
 ·have:=List.eq_of_mem_replicate (List.mem_of_getElem? he)
  subst this;exact ⟨hsz,hf⟩
 ·have hi:=qd0 he
  have:=List.eq_of_mem_replicate (List.mem_of_getElem? he)
  subst this
  simp at hi
  have hj:=qd0 hx
  obtain ⟨v,hv⟩:=zy0 zv.cells j (by rw [hn];exact hj)
  refine ⟨v,?_,h1 j v hv,hrel j v x hv hx⟩
  rw [Array.getElem?_toList,← hsz,← hn,yl2 _ _ _ _ hi (by rw [hn];exact hj)];exact hv
theorem Zp1 (hW:W B w0 g h w) {t ty:TypeId} {ts:List TypeId} {v:Value} {x:V} (hR:R g v x):ValR B w0 g ((Builtin.clear_ (t::ts).toArray ty [v].toArray).run P w) (Km0 P t h x):=by
 unfold Km0
 cases ht:qX0 P t with
 | false=>trivial
 | true =>
  obtain ⟨e,hu⟩:=ZH0 ht
  simp only [Bool.not_true,cond_false]
  have tupR:R g (.tuple #[]) (.tup []):=.gnd (.tup rfl fun i v x a=>by simp at a)
  have run0:∀ a c,v=.slice a 0 c→(Builtin.clear_ (t::ts).toArray ty [v].toArray).run P w=.ok (.tuple #[]) w:=by
   rintro a c rfl
   cases a <;> simp [Builtin.clear_,run_underlying hu]
  split
  ·exact ⟨_,w,g,run0 _ _ hR.nils_inv,Grown.refl _ _,hW,tupR⟩
  ·rename_i sz es c
   refine .bif fun hv=>?_
   rw [yO1] at hv;subst hv
   have hg:=hR.gsl_inv
   cases hg with
   | gsl=>exact ⟨_,w,g,run0 _ _ rfl,Grown.refl _ _,hW,tupR⟩
  ·rename_i r ver o n c
   cases hn:Nat.beq n 0 with
   | true =>
    rw [Nat.beq_eq] at hn;subst hn
    obtain ⟨a,cp,ver',e,_⟩:=hR.sl_inv
    exact ⟨_,w,g,run0 _ _ e,Grown.refl _ _,hW,tupR⟩
   | false =>
    have hn0:n≠0:=fun q=>by rw [q] at hn;cases hn
    simp only [cond_false]
    split
    ·rename_i ver' ty' sz pub cap es hr
     split
     ·rename_i e' he
      have hu':=zI0 he
      split
      ·rename_i z hz
       refine .bif fun hv=>?_
       simp only [Bool.and_eq_true,Nat.beq_eq,Nat.ble_eq,List.len_eq] at hv
       obtain ⟨⟨⟨⟨⟨hv,hpub⟩,hsz⟩,hzl⟩,hzf⟩,hfit⟩:=hv
       have hfit:o+n≤es.length:=hfit
       obtain ⟨a,cp,b,k',C,fr,e1,hn',hc,hb,hs,ho,hk,hk',hm,hrow⟩:=XS0 hW hR hr hv
       obtain ⟨i,zv,hi,hzv,hg⟩:=jA0 hz
       have hzs:=ym2 (g:=g) (.gnd (hg _)) hzf hzl n
       obtain ⟨hrun,hW'⟩:=jF1 (P:=P) hW hr hm hrow hzs (by simpa using hfit) hpub
       rw [List.takeN_eq,List.app_eq,List.app_eq,List.dropN_eq,List.rep_eq]
       rw [List.length_replicate] at hW'
       have ha:a=⟨b,o*sz,none⟩:=by rw [Addr.eta hs,hb,ho (by omega)]
       refine ⟨_,_,g,?_,Grown.refl _ _,by subst hv;exact hW',tupR⟩
       rw [e1,ha]
       obtain ⟨m,rfl⟩:∃ m,n=m+1:=⟨n-1,by omega⟩
       simp [Builtin.clear_,run_underlying hu',jx0 hi hzv,hrun]
      ·trivial
     ·trivial
    ·trivial
  ·trivial
theorem ZJ1 {x:V} {b:UInt8} (h:Ks0 x=some b):x=.int .u8 b.toNat:=by
 unfold Ks0 at h
 split at h
 ·rename_i n
  obtain ⟨hn,h⟩:=qf0 h rfl
  cases h
  rw [Nat.blt_eq] at hn
  simp [Nat.mod_eq_of_lt hn]
 ·cases h
theorem Zs1 (hW:W B w0 g h w) {t it ty:TypeId} {v v':Value} {p n:V} (hR:R g v p) (hn:R g v' n):ValR B w0 g ((Builtin.unsafeString_ [t,it].toArray ty [v,v'].toArray).run P w) (Kn0 P h t p n):=by
 unfold Kn0
 split
 ·rename_i n
  have:=hn.int_inv;subst this
  split
  ·refine .bif fun hv=>?_
   rw [Nat.beq_eq] at hv;subst hv
   have:=hR.nilp_inv;subst this
   exact ⟨_,w,g,Lib.run_unsafeString_none w t it ty none,Grown.refl _ _,hW,.gnd (.str rfl)⟩
  ·rename_i r ver off
   split
   ·rename_i ver' ty' sz pub cap es hr
    split
    ·rename_i u hu
     refine .bif fun hv=>?_
     simp only [Bool.and_eq_true,Nat.beq_eq,Nat.ble_eq,Nat.blt_eq,List.len_eq] at hv
     obtain ⟨⟨⟨⟨⟨⟨⟨hv,hoff⟩,hsz⟩,hty⟩,hn0⟩,hne⟩,hroom⟩,htu⟩:=hv
     subst hv;subst hoff;subst hsz;subst htu
     split
     ·rename_i s hs
      rw [List.takeN_eq] at hs
      obtain ⟨hl,hget⟩:=zH0 hs
      obtain ⟨hv2,b,k,C,fr,hm,hrow,_⟩:=hW.row hr
      obtain ⟨ad,ver',rfl,hvr,hle,hp⟩:=hR.ptr_inv
      rw [hv2] at hvr;cases hvr
      obtain ⟨k',sz',hm',ho,hsp⟩:=hp rfl
      rw [hm] at hm'
      simp only [Option.some.injEq,Prod.mk.injEq] at hm'
      obtain ⟨hb',rfl,rfl⟩:=hm'
      have had:ad=⟨b,0,none⟩:=by rw [Addr.eta hsp,← hb',ho]
      subst had
      have hsl:s.length=n:=by rw [hl,List.length_take];omega
      have hcell:∀ (j:Nat) (x:UInt8),s[j]?=some x→C[j]?=some (.int .u8 x.toNat):=by
       intro j x hx
       have hj:j<n:=by rw [← hsl];exact qd0 hx
       obtain ⟨e,he⟩:=qr0 (es.take n) j (by rw [List.length_take];omega)
       obtain ⟨y,hy,hf⟩:=hget j e he
       rw [hx] at hy;cases hy
       have hee:=ZJ1 hf
       subst hee
       rw [List.getElem?_take,if_pos hj] at he
       obtain ⟨u,p,_,q⟩:=hrow.cells j _ 0 _ he rfl
       have:=q.int_inv;subst this
       simpa using p
      have hCs:C.size=k:=by have:=hrow.csize;simpa using this
      have hfits:=hrow.fits
      have hshape:w.shape? b=some (ty',C.size):=by simp [World.shape?,hrow.at_]
      have hrun:=Lib.run_unsafeString_row (P:=P) w t it ty ty' hu hty b C.size hshape s (fun e=>by subst e;simp at hsl;omega) (by omega) (by have:n≤1099511627776:=hroom;omega)
       (fun j x hx=>by rw [Addr.add_mk];exact Yy0 hrow.at_ (by simpa using hcell j x hx))
      rw [hsl] at hrun
      have hice:fr.1=fr.2∨(fr.1=0∧fr.2≤pub):=by have:=hrow.ice;simpa using this
      obtain ⟨fr',hfr',hfz⟩:∃ fr':Nat×Nat,w.freeze ⟨b,0,none⟩ n=blk w b (.cells C ty' fr')∧(fr'.1=fr'.2∨(fr'.1=0∧fr'.2≤Nat.max pub n)):=by
       refine ⟨if fr.1 == fr.2 then (0,0+n) else (min fr.1 0,max fr.2 (0+n)),?_,?_⟩
       ·unfold World.freeze blk
        rw [if_neg (by omega)]
        congr 1
        apply Array.ext_getElem?
        intro i
        rw [Array.getElem?_modify,Array.getElem?_setIfInBounds]
        split
        ·rename_i e;subst e;rw [if_pos (zJ0 hrow.at_)];simp [hrow.at_]
        ·rfl
       ·have hmx:pub≤Nat.max pub n:=Nat.le_max_left _ _
        have hmx':n≤Nat.max pub n:=Nat.le_max_right _ _
        split
        ·exact .inr ⟨rfl,by simpa using hmx'⟩
        ·rename_i hne'
         have:¬ fr.1=fr.2:=by simpa using hne'
         rcases hice with q | ⟨q,q'⟩
         ·exact absurd q this
         ·refine .inr ⟨by simp,?_⟩
          show max fr.2 (0+n)≤Nat.max pub n
          omega
      rw [hfr'] at hrun
      have hW':=hW.setRow (C':=C) (fr':=fr') (es':=es) (pub':=Nat.max pub n) hr hm hrow
       ⟨yt0 w _ _ (zJ0 hrow.at_),hrow.csize,hrow.pos,hrow.fits,Nat.max_le.2 ⟨hrow.pubs,hne⟩,hrow.caps,hrow.elems,hrow.cells,fun o v hv=>by
        have h1:=hrow.shut o v hv
        have hmx:pub≤Nat.max pub n:=Nat.le_max_left _ _
        omega,by simpa using hfz⟩ (fun _ _ _ e=>e)
      exact ⟨_,_,g,hrun,Grown.refl _ _,hW',.gnd (.str (by simp))⟩
     ·trivial
    ·trivial
   ·trivial
  ·trivial
 ·trivial
variable {P:Program} {B:Ns} {w0:World} {g:Gh} {h:Heap} {w:World}
theorem jh1 {t kt e:TypeId} (h:ZQ0 P t=some (kt,e)):P.underlying t=some (.map kt e):=by
 unfold ZQ0 at h
 split at h
 ·cases h;assumption
 ·cases h
theorem YF0 {t:TypeId} {x:V} (h:zf0 P t x=true):(∃ k k' n,P.underlying t=some (.int k)∧x=.int k' n)∨(∃ s,P.underlying t=some .string∧x=.str s)∨(∃ b,P.underlying t=some .bool∧x=.bool b):=by
 unfold zf0 at h
 split at h
 ·rename_i k hu
  cases x with
  | int k' n=>exact .inl ⟨_,_,_,hu,rfl⟩
  | _=>cases h
 ·rename_i hu
  cases x with
  | str s=>exact .inr (.inl ⟨_,hu,rfl⟩)
  | _=>cases h
 ·rename_i hu
  cases x with
  | bool b=>exact .inr (.inr ⟨_,hu,rfl⟩)
  | _=>cases h
 ·cases h
theorem qJ2 {t:TypeId} {v:Value} {x:V} (hf:zf0 P t x=true) (empty:Bool) (n:Nat):(Instr.checkKey empty (n+1) t v).run P w=.ok () w:=by
 rcases YF0 hf with ⟨k,_,_,hu,_⟩ | ⟨_,hu,_⟩ | ⟨_,hu,_⟩ <;> cases v <;> simp [Instr.checkKey,run_underlying hu]
theorem qg1 {t:TypeId} {v:Value} {x:V} (hf:zf0 P t x=true) (empty:Bool):(Instr.checkKey empty 10000 t v).run P w=.ok () w:=qJ2 hf empty 9999
theorem qX1 (a b:ByteArray):(a == b)=zC0 a.data.toList b.data.toList:=by
 have e:(a == b)=(a.data == b.data):=rfl
 rw [e,Zg0,Bool.eq_iff_iff]
 simp only [beq_iff_eq]
 exact ⟨fun h=>by rw [h],fun h=>Array.ext' h⟩
theorem XQ0 {t:TypeId} {d:TypeDesc} {v u:Value} {x y:V} {b:Bool} (hu:P.underlying t=some d) (hf:zf0 P t x=true) (hx:R g v x) (hy:R g u y) (he:eqS x y=some b):Instr.sameNow d v u=some b:=by
 rcases YF0 hf with ⟨k,k',n,hu',rfl⟩ | ⟨s,hu',rfl⟩ | ⟨c,hu',rfl⟩
 ·rw [hu] at hu';cases hu'
  have:=hx.int_inv;subst this
  cases y with
  | int k2 m =>
   have:=hy.int_inv;subst this
   obtain ⟨hk,he⟩:=qf0 he rfl
   cases he
   have:=(Qa0 _ _).1 hk;subst this
   simp [Instr.sameNow,QL0]
  | _=>cases he
 ·rw [hu] at hu';cases hu'
  obtain ⟨a,rfl,rfl⟩:=hx.str_inv
  cases y with
  | str l =>
   obtain ⟨c,rfl,rfl⟩:=hy.str_inv
   cases he
   simp only [Instr.sameNow,qX1]
  | _=>cases he
 ·rw [hu] at hu';cases hu'
  have:=hx.bool_inv;subst this
  cases y with
  | bool c2 =>
   have:=hy.bool_inv;subst this
   cases he
   cases c <;> cases c2 <;> rfl
  | _=>cases he
theorem qR2 {t:TypeId} {v u:Value} {x y:V} (hf:zf0 P t x=true) (hx:R g v x) (hy:R g u y) (he:eqS x y=some true):Instr.sameBits 10000 u v=true:=by
 rcases YF0 hf with ⟨k,k',n,hu',rfl⟩ | ⟨s,hu',rfl⟩ | ⟨c,hu',rfl⟩
 ·have:=hx.int_inv;subst this
  cases y with
  | int k2 m =>
   have:=hy.int_inv;subst this
   obtain ⟨hk,he_⟩:=qf0 he rfl
   have:=(Qa0 _ _).1 hk;subst this
   have:=(ZF0 n m).1 (Option.some.inj he_);subst this
   simp [Instr.sameBits]
  | _=>cases he
 ·obtain ⟨a,rfl,rfl⟩:=hx.str_inv
  cases y with
  | str l =>
   obtain ⟨c,rfl,rfl⟩:=hy.str_inv
   have he':zC0 a.data.toList c.data.toList=true:=Option.some.inj he
   have:=(Jp0 _ _).1 he'
   simp only [Instr.sameBits,qX1]
   rw [this];exact (Jp0 _ _).2 rfl
  | _=>cases he
 ·have:=hx.bool_inv;subst this
  cases y with
  | bool c2 =>
   have:=hy.bool_inv;subst this
   cases c <;> cases c2 <;> first | rfl | cases he
  | _=>cases he
theorem yj1 (k:V) (p:V×V) (l:List (V×V)):findKey k (p::l)=match eqS k p.1 with
 | some true=>some (some p.2)
 | some false=>findKey k l
 | none=>none:=rfl
theorem qi2 (k v:V) (p:V×V) (l:List (V×V)):XI0 k v (p::l)=match eqS k p.1 with
 | some true=>some ((k,v)::l)
 | some false=>match XI0 k v l with
  | some l'=>some (p::l')
  | none=>none
 | none=>none:=rfl
def EntsOk (g:Gh) (E:List MapEntry) (es:List (V×V)):Prop:=E.length=es.length∧∀ (i:Nat) e p,E[i]?=some e→es[i]?=some p→R g e.key p.1∧R g e.val p.2
theorem EntsOk.tail {e:MapEntry} {p:V×V} {E:List MapEntry} {es:List (V×V)} (h:EntsOk g (e::E) (p::es)):(R g e.key p.1∧R g e.val p.2)∧EntsOk g E es :=
 ⟨h.2 0 e p rfl rfl,by simpa using h.1,fun i a b x y=>h.2 (i+1) a b (by simpa using x) (by simpa using y)⟩
theorem JR1 {t:TypeId} {d:TypeDesc} {v:Value} {x:V} (hu:P.underlying t=some d) (hf:zf0 P t x=true) (hx:R g v x) (es:List (V×V)):∀ (E:List MapEntry) (i:Nat) (r:Option V),EntsOk g E es→findKey x es=some r →
 match r with
 | none=>Instr.findNow d v E i=some none
 | some y=>∃ j u,Instr.findNow d v E i=some (some (j,u))∧R g u y:=by
 induction es with
 | nil =>
  intro E i r hE hr
  cases E with
  | nil=>cases hr;rfl
  | cons _ _=>have:=hE.1;simp at this
 | cons p es ih =>
  intro E i r hE hr
  cases E with
  | nil=>have:=hE.1;simp at this
  | cons e E =>
   obtain ⟨⟨hk,hv⟩,ht⟩:=hE.tail
   rw [yj1] at hr
   split at hr
   ·rename_i he
    cases hr
    exact ⟨i,e.val,by simp [Instr.findNow,XQ0 hu hf hx hk he],hv⟩
   ·rename_i he
    have:=ih E (i+1) r ht hr
    have e1:Instr.findNow d v (e::E) i=Instr.findNow d v E (i+1):=by simp [Instr.findNow,XQ0 hu hf hx hk he]
    rw [e1];exact this
   ·cases hr
theorem XN0 {t:TypeId} {d:TypeDesc} {v:Value} {E:List MapEntry} {r:Option (Nat×Value)} (hu:P.underlying t=some d) (hn:Instr.findNow d v E 0=some r):(Instr.findKey t v E).run P w=.ok r w:=by
 simp [Instr.findKey,run_underlying hu,hn]
theorem tup2 {a b:Value} {x y:V} (h1:R g a x) (h2:R g b y):R g (.tuple #[a,b]) (.tup [x,y]):=.tup rfl fun i v x hv hx=>by
 match i with
 | 0=>cases hv;cases hx;exact h1
 | 1=>cases hv;cases hx;exact h2
 | n+2=>simp at hx
theorem Gv0 {t kt e:TypeId} {d:TypeDesc} {ok em:Bool} {vm vk:Value} {k y:V} {E:List MapEntry} {es:List (V×V)} (hf:zf0 P kt k=true) (hd:P.underlying kt=some d) (hk:R g vk k) (hE:EntsOk g E es) (hr:jV0 P ok e (findKey k es)=some y)
 (hrun:(Instr.lookup t vm vk ok).run P w=((Instr.checkKey em 10000 kt vk).run P w).andThen fun _ w'=>((Instr.findKey kt vk E).run P w').andThen fun r w''=>Sem.run P (match r with
  | some (_,v)=>pure (if ok=true then .tuple #[v,.bool true] else v)
  | none=>(fun a=>if ok=true then Value.tuple #[a,.bool false] else a) <$> zeroValue e) w''):∃ v,(Instr.lookup t vm vk ok).run P w=.ok v w∧R g v y:=by
 rw [hrun,qg1 hf em]
 cases hfk:findKey k es with
 | none=>rw [hfk] at hr;cases hr
 | some o =>
  rw [hfk] at hr
  have hfn:=JR1 hd hf hk es E 0 o hE hfk
  cases o with
  | none =>
   have hfn:Instr.findNow d vk E 0=some none:=hfn
   simp only [Result.andThen_ok,XN0 hd hfn]
   unfold jV0 at hr
   simp only at hr
   split at hr
   ·rename_i z hz
    obtain ⟨i,zv,hi,hzv,hg⟩:=jA0 hz
    cases ok with
    | true=>cases hr;exact ⟨.tuple #[zv,.bool false],by simp [jx0 hi hzv],tup2 (.gnd (hg _)) (.gnd (.bool _))⟩
    | false=>cases hr;exact ⟨zv,by simp [jx0 hi hzv],.gnd (hg _)⟩
   ·cases hr
  | some x =>
   obtain ⟨j,u,hfn,hu⟩:=hfn
   simp only [Result.andThen_ok,XN0 hd hfn]
   cases ok with
   | true=>cases hr;exact ⟨.tuple #[u,.bool true],by simp,tup2 hu (.gnd (.bool _))⟩
   | false=>cases hr;exact ⟨u,by simp,hu⟩
theorem QR1 (k v:V) (ks vs:List V):Qv0 (k::ks) (v::vs)=(k,v)::Qv0 ks vs:=rfl
theorem yo2:∀ {ks vs:List V},ks.length=vs.length→(Qv0 ks vs).length=ks.length:=by
 intro ks
 induction ks with
 | nil=>intro vs _;rfl
 | cons k ks IH =>
  intro vs h
  cases vs with
  | nil=>simp at h
  | cons v vs=>rw [QR1,List.length_cons,List.length_cons,IH (by simpa using h)]
theorem yn2:∀ {ks vs:List V} {i:Nat} {p:V×V},(Qv0 ks vs)[i]?=some p→ks[i]?=some p.1∧vs[i]?=some p.2:=by
 intro ks
 induction ks with
 | nil=>intro vs i p h;change ([]:List (V×V))[i]?=some p at h;simp at h
 | cons k ks IH =>
  intro vs i p h
  cases vs with
  | nil=>change ([]:List (V×V))[i]?=some p at h;simp at h
  | cons v vs =>
   rw [QR1] at h
   cases i with
   | zero=>simp at h;subst h;exact ⟨rfl,rfl⟩
   | succ i=>exact IH (by simpa using h)
theorem Km1 (hW:W B w0 g h w) {t:TypeId} {ok:Bool} {vm vk:Value} {m k y:V} (hm:R g vm m) (hk:R g vk k) (hl:lookup P h t ok m k=some y):∃ v,(Instr.lookup t vm vk ok).run P w=.ok v w∧R g v y:=by
 unfold lookup at hl
 split at hl
 ·cases hl
 ·rename_i kt e hkv
  have hu:=jh1 hkv
  obtain ⟨hf,hl1⟩:=qf0 hl rfl
  clear hl
  obtain ⟨d,hd⟩:∃ d,P.underlying kt=some d:=by
   rcases YF0 hf with ⟨_,_,_,hu',_⟩ | ⟨_,hu',_⟩ | ⟨_,hu',_⟩ <;> exact ⟨_,hu'⟩
  split at hl1
  ·have:=hm.nilm_inv;subst this
   refine Gv0 (em:=true) (E:=[]) (es:=[]) hf hd hk ⟨rfl,fun i e p a=>by simp at a⟩ hl1 ?_
   simp [Instr.lookup,run_underlying hu]
   rfl
  ·rename_i r
   split at hl1
   ·rename_i es hr
    obtain ⟨b,kk,rfl,hv,hmu⟩:=hm.map_inv
    have hobj:=hW.obj r _ hmu
    rw [hr] at hobj
    obtain ⟨_,E,clock,h1,h2,h3,_⟩:=hobj
    have h1:w.heap[b]?=some (.map E clock):=h1
    have hE:EntsOk g E.toList es:=⟨by simpa using h2,fun i e p a b=>h3 i e p (by simpa using a) b⟩
    refine Gv0 (em:=E.isEmpty) hf hd hk hE hl1 ?_
    simp [Instr.lookup,run_underlying hu,getObj,Sem.run,h1]
    rfl
   ·cases hl1
  ·rename_i ks vs
   have h':=hm.gmap_inv
   cases h' with
   | gmap hS hkn hvn h1 h2 =>
    rename_i b c E
    have h3:=JZ0 (w:=w) (fun o v e=>hW.shut _ _ _ (hS o v e))
    have hE:EntsOk g E.toList (Qv0 ks vs):=⟨by rw [yo2 (by omega)];simp [hkn],fun i e p a b=>by
     obtain ⟨p1,p2⟩:=yn2 b
     have q1:E[i]?=some e:=by simpa using a
     exact ⟨.gnd (h1 i e _ q1 p1),.gnd (h2 i e _ q1 p2)⟩⟩
    refine Gv0 (em:=E.isEmpty) hf hd hk hE hl1 ?_
    simp [Instr.lookup,run_underlying hu,getObj,Sem.run,h3]
    rfl
  ·cases hl1
theorem Qh1 {b:Nat} {E:Array MapEntry} {c:Nat} (h1:w.heap[b]?=some (.map E c)):(Sem.getObj b Sem.pure).run P w=.ok (.map E c) w:=by simp [Sem.run,h1]
theorem EntsOk.modify {E:List MapEntry} {es:List (V×V)} (h:EntsOk g E es) {i:Nat} {k v:Value} {x y:V} (hk:R g k x) (hv:R g v y):EntsOk g (E.modify i fun e=>{ e with key:=k,val:=v }) (es.set i (x,y)):=by
 refine ⟨by simp [h.1],fun j e p hj hp=>?_⟩
 rw [List.getElem?_modify] at hj
 rw [List.getElem?_set] at hp
 cases he:E[j]? with
 | none=>rw [he] at hj;simp at hj
 | some e0 =>
  rw [he] at hj
  simp only [Option.map_eq_map,Option.map_some,Option.some.injEq] at hj
  split at hp
  ·rename_i hij
   subst hij
   rw [if_pos rfl] at hj
   split at hp
   ·cases hp;subst hj;exact ⟨hk,hv⟩
   ·cases hp
  ·rename_i hij
   rw [if_neg hij] at hj
   subst hj
   exact h.2 j _ p he hp
theorem qj2 {t:TypeId} {d:TypeDesc} {v:Value} {x y:V} (hu:P.underlying t=some d) (hf:zf0 P t x=true) (hx:R g v x) (es:List (V×V)):∀ (E:List MapEntry) (i:Nat) (es':List (V×V)),EntsOk g E es→XI0 x y es=some es' →
 (Instr.findNow d v E i=some none∧es'=es++[(x,y)])∨(∃ j u e,Instr.findNow d v E i=some (some (i+j,u))∧E[j]?=some e∧Instr.sameBits 10000 e.key v=true∧es'=es.set j (x,y)):=by
 induction es with
 | nil =>
  intro E i es' hE hr
  cases E with
  | nil=>cases hr;exact .inl ⟨rfl,rfl⟩
  | cons _ _=>have:=hE.1;simp at this
 | cons p es ih =>
  intro E i es' hE hr
  cases E with
  | nil=>have:=hE.1;simp at this
  | cons e E =>
   obtain ⟨⟨hk,hv⟩,ht⟩:=hE.tail
   rw [qi2] at hr
   split at hr
   ·rename_i he
    cases hr
    exact .inr ⟨0,e.val,e,by simp [Instr.findNow,XQ0 hu hf hx hk he],rfl,qR2 hf hx hk he,rfl⟩
   ·rename_i he
    have e1:Instr.findNow d v (e::E) i=Instr.findNow d v E (i+1):=by simp [Instr.findNow,XQ0 hu hf hx hk he]
    rw [e1]
    split at hr
    ·rename_i l' hl
     cases hr
     rcases ih E (i+1) l' ht hl with ⟨a,rfl⟩ | ⟨j,u,e',a,b,c,rfl⟩
     ·exact .inl ⟨a,rfl⟩
     ·refine .inr ⟨j+1,u,e',?_,by simpa using b,c,rfl⟩
      rw [a]
      have:i+1+j=i+(j+1):=by omega
      rw [this]
    ·cases hr
   ·cases hr
theorem BornOk.push {E:Array MapEntry} {c:Nat} (h:BornOk E c) (k v:Value):BornOk (E.push { key:=k,val:=v,born:=c }) (c+1):=by
 have hp:∀ (i:Nat) e,(E.push { key:=k,val:=v,born:=c })[i]?=some e→(i=E.size∧e.born=c)∨(E[i]?=some e):=fun i e he=>by
  rw [Array.getElem?_push] at he
  split at he
  ·rename_i q;cases he;exact .inl ⟨q,rfl⟩
  ·exact .inr he
 refine ⟨fun i e he=>?_,fun i j e e' he he' hb=>?_⟩
 ·rcases hp i e he with ⟨_,q⟩ | q
  ·omega
  ·have:=h.1 i e q;omega
 ·rcases hp i e he with ⟨q1,q2⟩ | q <;> rcases hp j e' he' with ⟨q3,q4⟩ | q'
  ·omega
  ·have:=h.1 j e' q';omega
  ·have:=h.1 i e q;omega
  ·exact h.2 i j e e' q q' hb
theorem BornOk.modify {E:Array MapEntry} {c:Nat} (h:BornOk E c) (j:Nat) (k v:Value):BornOk (E.modify j fun e=>{ e with key:=k,val:=v }) c:=by
 have hp:∀ (i:Nat) e,(E.modify j fun e=>{ e with key:=k,val:=v })[i]?=some e→∃ e0,E[i]?=some e0∧e0.born=e.born:=fun i e he=>by
  rw [Array.getElem?_modify] at he
  cases he0:E[i]? with
  | none=>rw [he0] at he;simp at he
  | some e0 =>
   rw [he0] at he
   refine ⟨e0,rfl,?_⟩
   split at he <;> · cases he;rfl
 refine ⟨fun i e he=>?_,fun i i' e e' he he' hb=>?_⟩
 ·obtain ⟨e0,q1,q2⟩:=hp i e he
  have:=h.1 i e0 q1;omega
 ·obtain ⟨e0,q1,q2⟩:=hp i e he
  obtain ⟨e1,q3,q4⟩:=hp i' e' he'
  exact h.2 i i' e0 e1 q1 q3 (by omega)
theorem BornOk.pair {E:Array MapEntry} {c:Nat} (h:BornOk E c):E.toList.Pairwise fun x y=>x.born≠y.born:=by
 rw [List.pairwise_iff_getElem]
 intro i j hi hj hij e
 have:=h.2 i j E.toList[i] E.toList[j] (by simp at hi ⊢) (by simp at hj ⊢) e
 omega
theorem W.sealMap {r b:Nat} {kk:Nat×Nat} {es:List (V×V)} (hW:W B w0 g h w) (hr:h.get r=.map es) (hm:g.mu r=some (b,kk)) (hvr:g.vr r=none) :
 ∃ E c,w.heap[b]?=some (.map E c)∧BornOk E c∧E.size=es.length∧(∀ (i:Nat) e p,E[i]?=some e→es[i]?=some p→R g e.key p.1∧R g e.val p.2) ∧
  ∃ S,(∀ b' o v,g.S b' o=some v→S b' o=some v)∧(∀ b',b'≠b→∀ o v,S b' o=some v→g.S b' o=some v)∧(∀ o v,zA0 E c o=some v→S b o=some v)∧Grown B g (g.say S)∧W B w0 (g.say S) (h.set r .dead) w:=by
 have hobj:=hW.obj r _ hm
 rw [hr] at hobj
 obtain ⟨hno,E,c,e1,e2,e3,e4⟩:=hobj
 have e1:w.heap[b]?=some (.map E c):=e1
 have hno:∀ o v,g.S b o≠some v:=hno
 have hB:=hW.high r _ hm
 refine ⟨E,c,e1,e4,e2,e3,fun b' o=>if b'=b then zA0 E c o else g.S b' o,?_⟩
 have hext:∀ b' o v,g.S b' o=some v→(if b'=b then zA0 E c o else g.S b' o)=some v:=fun b' o v e=>by
  split
  ·rename_i q;subst q;exact absurd e (hno o v)
  ·exact e
 have hoth:∀ b',b'≠b→∀ o v,(if b'=b then zA0 E c o else g.S b' o)=some v→g.S b' o=some v:=fun b' hb o v e=>by
  rw [if_neg hb] at e;exact e
 have hx:Ext g (g.say fun b' o=>if b'=b then zA0 E c o else g.S b' o):=Ext.say hext
 refine ⟨hext,hoth,fun o v e=>by show (if b=b then zA0 E c o else g.S b o)=some v;rw [if_pos rfl];exact e,⟨hx,fun b' o v hb' hv=>hoth b' (fun q=>hB.1 (q ▸ hb')) o v hv⟩,?_⟩
 refine hW.turn r (b,kk) ⟨rfl,rfl,rfl,Nat.le_refl _,fun _ _=>rfl⟩ hx (.inl ⟨Heap.n_set _ _ _,hW.live hm⟩) (fun _ _=>rfl) (fun q hq=>by rw [Heap.get_set,if_neg (fun e=>hq e.symm)]) (fun _ _=>rfl) hm
  (by rw [Heap.get_set,if_pos rfl];exact hvr) (fun q x hq hx'=>?_) (by rw [Heap.get_set,if_pos rfl];trivial) hB ?_
 ·have hne:x.1≠b:=fun e=>hq (hW.inj q r x _ hx' hm e)
  exact ⟨hne,rfl,fun i v=>hoth x.1 hne i v⟩
 ·intro b' o v hv
  by_cases q:b'=b
  ·subst q
   have hv:(if b'=b' then zA0 E c o else g.S b' o)=some v:=hv
   rw [if_pos rfl] at hv
   rw [Gs0 e1];exact hv
  ·exact hW.shut _ _ _ (hoth b' q o v hv)
theorem qm2 {t k e:TypeId} {r:Nat} {es:List (V×V)} {vx:Value} (hW:W B w0 g h w) (hu:P.underlying t=some (.map k e)) (hR:R g vx (.map r)) (hr:h.get r=.map es):zk0 B w0 g ((Instr.range t vx).run P w) (.iter h.n) ((h.set r .dead).new (.miter es none)):=by
 obtain ⟨b,kk,rfl,hvr,hm⟩:=hR.map_inv
 obtain ⟨E,c,e1,e2,e3,e4,S,s1,s2,s3,s4,hW2⟩:=hW.sealMap hr hm hvr
 have hn:(h.set r .dead).n=h.n:=Heap.n_set _ _ _
 refine ⟨.pointer (some ⟨w.heap.size,0,none⟩),{ w with heap:=w.heap.push (.mapIter (some b) c #[] c) },(g.say S).new h.n (w.heap.size,0,0) none,?_,s4.trans (by rw [← hn];exact Grown.new hW2 _ _),?_,?_⟩
 ·simp [Instr.range,run_underlying hu,getObj,Sem.run,e1];try rfl
 ·have ft:(E.toList.filter fun e=>!(#[]:Array Nat).contains e.born)=E.toList:=List.filter_eq_self.2 (fun e _=>by simp)
  have:=hW2.alloc (.mapIter (some b) c #[] c) (.miter es none) 0 0 (.inr ⟨b,E,c,c,#[],c,jl0 w _,s3,e2,e2,e2,by rw [ft];simpa using e3,fun i e p a q=>by
   rw [ft] at a
   have a':E[i]?=some e:=by simpa using a
   exact ⟨((e4 i e p a' q).1.mono s4.ext).mono (Ext.new hW2 _ _),((e4 i e p a' q).2.mono s4.ext).mono (Ext.new hW2 _ _)⟩,fun p q=>by cases q⟩)
  rw [hn] at this
  exact this
 ·exact .iter (k:=(0,0)) (by simp [Gh.new]) (by simp [Gh.new])
theorem qn2 {t k e:TypeId} {vx:Value} (hW:W B w0 g h w) (hu:P.underlying t=some (.map k e)) (hR:R g vx .nilm):zk0 B w0 g ((Instr.range t vx).run P w) (.iter h.n) (h.new (.miter [] none)):=by
 have:=hR.nilm_inv;subst this
 refine ⟨.pointer (some ⟨w.heap.size,0,none⟩),{ w with heap:=w.heap.push (.mapIter none 0 #[] 0) },g.new h.n (w.heap.size,0,0) none,?_,Grown.new hW _ _,?_,?_⟩
 ·simp [Instr.range,run_underlying hu];try rfl
 ·exact hW.alloc (.mapIter none 0 #[] 0) (.miter [] none) 0 0 (.inl ⟨rfl,rfl,0,#[],0,jl0 w _⟩)
 ·exact .iter (k:=(0,0)) (by simp [Gh.new]) (by simp [Gh.new])
theorem qK2 {α:Type} {n:Nat} (hn:0<n) (f:Nat→Sem α):∃ k d,k<n∧((Sem.choose (.mapNext n) Sem.pure).bind f).run P w=(f k).run P { w with drawn:=d }:=by
 by_cases h1:n≤1
 ·refine ⟨0,w.drawn,hn,?_⟩
  simp [Sem.bind,Sem.run,Question.forced,h1]
 ·refine ⟨w.tape w.drawn (.mapNext n)%n,w.drawn+1,Nat.mod_lt _ hn,?_⟩
  simp [Sem.bind,Sem.run,Question.forced,Question.cut,h1]
theorem JL1 {L:List MapEntry}:∀ {k:Nat} {e:MapEntry},(∀ (i j:Nat) x y,L[i]?=some x→L[j]?=some y→x.born=y.born→i=j)→L[k]?=some e→(L.filter fun x=>!(x.born == e.born))=L.eraseIdx k:=by
 induction L with
 | nil=>intro k e _ h;simp at h
 | cons a L IH =>
  intro k e hd hk
  have hd':∀ (i j:Nat) x y,L[i]?=some x→L[j]?=some y→x.born=y.born→i=j:=fun i j x y p q r=>by
   have:=hd (i+1) (j+1) x y (by simpa using p) (by simpa using q) r;omega
  cases k with
  | zero =>
   simp at hk;subst hk
   rw [List.filter_cons,if_neg (by simp),List.eraseIdx_cons_zero,List.filter_eq_self]
   intro x hx
   obtain ⟨i,hi⟩:=List.getElem?_of_mem hx
   have:x.born≠a.born:=fun q=>by have:=hd (i+1) 0 x a (by simpa using hi) rfl q;omega
   simp [this]
  | succ k =>
   have hk':L[k]?=some e:=by simpa using hk
   have:a.born≠e.born:=fun q=>by have:=hd 0 (k+1) a e rfl hk q;omega
   rw [List.filter_cons,if_pos (by simp [this]),List.eraseIdx_cons_succ,IH hd' hk']
theorem tup1 {a:Value} {x:V} (h1:R g a x):R g (.tuple #[a]) (.tup [x]):=.tup rfl fun i v x hv hx=>by
 match i with
 | 0=>cases hv;cases hx;exact h1
 | n+1=>simp at hx
theorem tup3 {a b c:Value} {x y z:V} (h1:R g a x) (h2:R g b y) (h3:R g c z):R g (.tuple #[a,b,c]) (.tup [x,y,z]):=.tup rfl fun i v x hv hx=>by
 match i with
 | 0=>cases hv;cases hx;exact h1
 | 1=>cases hv;cases hx;exact h2
 | 2=>cases hv;cases hx;exact h3
 | n+3=>simp at hx
theorem KR1 {ty:TypeId} {r:Nat} {left:List (V×V)} {cur:Option (V×V)} {vx:Value} (hW:W B w0 g h w) (hR:R g vx (.iter r)) (hr:h.get r=.miter left cur) :
 (left=[]→zk0 B w0 g ((Instr.next vx false ty).run P w) (.tup [.bool false]) h) ∧
 (left≠[]→∃ k p,left[k]?=some p∧zk0 B w0 g ((Instr.next vx false ty).run P w) (.tup [.bool true,p.1,p.2]) (h.set r (.miter (left.eraseIdx k) (some p)))):=by
 obtain ⟨b,kk,rfl,hv,hm⟩:=hR.iter_inv
 have hobj:=hW.obj r _ hm
 rw [hr] at hobj
 rcases hobj with ⟨hl,_,s,n,t,h1⟩ | ⟨m,E,c,s,n,t,h1,h2,h3,h4,h5,h6,h7,_⟩
 ·have h1:w.heap[b]?=some (.mapIter none s n t):=h1
  refine ⟨fun _=>⟨.tuple #[.bool false],w,g,?_,Grown.refl _ _,hW,tup1 (.gnd (.bool _))⟩,fun q=>absurd hl q⟩
  simp [Instr.next,getObj,Sem.run,h1]
 ·have h1:w.heap[b]?=some (.mapIter (some m) s n t):=h1
  have hm':=JZ0 (w:=w) (fun o v e=>hW.shut _ _ _ (h2 o v e))
  have hborn:∀ e,e∈E.toList→e.born<s∧e.born<t:=fun e he=>by
   obtain ⟨i,hi⟩:=List.getElem?_of_mem he
   have hi:E[i]?=some e:=by simpa using hi
   exact ⟨h3.1 i e hi,h4.1 i e hi⟩
  obtain ⟨A,hA⟩:∃ A:Array MapEntry,A=E.filter fun e=>!n.contains e.born:=⟨_,rfl⟩
  have hAl:A.toList=E.toList.filter fun e=>!n.contains e.born:=by rw [hA];simp
  have hAm:∀ e,e∈A.toList→e∈E.toList:=fun e he=>by rw [hAl] at he;exact (List.mem_filter.1 he).1
  have hold:A.filter (fun e=>decide (e.born<s))=A:=by
   apply Array.ext'
   simp only [Array.toList_filter]
   rw [List.filter_eq_self]
   intro e he;exact decide_eq_true (hborn e (hAm e he)).1
  have hnew:A.filter (fun e=>decide (e.born ≥ s))=#[]:=by
   apply Array.ext'
   simp only [Array.toList_filter]
   rw [List.filter_eq_nil_iff]
   intro e he;have:=(hborn e (hAm e he)).1;simp;omega
  have hcond:(!n.isEmpty&&!E.isEmpty&&E.all (fun e=>decide (e.born ≥ t)))=false:=by
   cases hE:E.isEmpty with
   | true=>simp
   | false =>
    have:E.all (fun e=>decide (e.born ≥ t))=false:=by
     rw [Array.all_eq_false']
     have hne:0<E.size:=by
      rcases Nat.eq_zero_or_pos E.size with q | q
      ·rw [Array.isEmpty_iff_size_eq_zero.2 q] at hE;cases hE
      ·exact q
     refine ⟨E[0],Array.getElem_mem hne,?_⟩
     have:=(hborn E[0] (by simp)).2
     simp;omega
    rw [this];simp
  rw [← hAl] at h6 h7
  have h6:A.size=left.length:=by simpa using h6
  refine ⟨fun hl=>?_,fun hl=>?_⟩
  ·subst hl
   have hA0:A=#[]:=Array.eq_empty_of_size_eq_zero (by simpa using h6)
   refine ⟨.tuple #[.bool false],w,g,?_,Grown.refl _ _,hW,tup1 (.gnd (.bool _))⟩
   simp only [Instr.next,getObj,Sem.run_bind,Sem.run,h1,hm',Result.andThen_ok]
   rw [← hA,hold,hnew,hcond,hA0]
   simp [choose,Sem.run,Question.forced]
  ·have hpos:0<A.size:=by
    rw [h6];exact List.length_pos_iff.2 hl
   have hne:A.isEmpty=false:=by
    cases hE:A.isEmpty with
    | false=>rfl
    | true=>rw [Array.isEmpty_iff_size_eq_zero] at hE;omega
   obtain ⟨k,d,hk,hrun⟩:=qK2 (P:=P) (w:=w) (n:=A.size) hpos (fun i=>match (A.map some)[i]? with
    | some (some e)=>(do
     setObj b (.mapIter (some m) s (n.push e.born) c)
     pure (Value.tuple #[Value.bool true,e.key,e.val]):Sem Value)
    | some none=>pure (Value.tuple #[Value.bool false])
    | none => stuck "Next: no such candidate")
   have hek:A[k]?=some A[k]:=by simp [hk]
   have hpl:k<left.length:=by omega
   have hp:left[k]?=some left[k]:=by simp [hpl]
   refine ⟨k,left[k],hp,.tuple #[.bool true,A[k].key,A[k].val],blk { w with drawn:=d } b (.mapIter (some m) s (n.push A[k].born) c),g,?_,Grown.refl _ _,?_,?_⟩
   ·simp only [Instr.next,getObj,Sem.run_bind,Sem.run,h1,hm',Result.andThen_ok]
    rw [← hA,hold,hnew,hcond]
    simp only [hne,Bool.false_eq_true,if_false,Array.empty_append,Array.append_empty,Array.size_map]
    refine Eq.trans (b:=_) hrun ?_
    have hb:w.heap[b]?=some (.mapIter (some m) s n t):=h1
    rw [Array.getElem?_map,hek]
    simp [setObj,Sem.run,hb,blk]
   ·have hW1:=hW.drew d
    refine hW1.setObj hm hv rfl ?_ (Xu0 hW.shut h1 (fun _ _ _ e=>by cases e) (fun _ _ e=>by cases e))
    have hbk:(blk { w with drawn:=d } b (.mapIter (some m) s (n.push A[k].born) c)).heap[b]?=some (.mapIter (some m) s (n.push A[k].born) c):=yt0 { w with drawn:=d } b _ (zJ0 h1)
    have hf:(E.toList.filter fun e=>!(n.push A[k].born).contains e.born)=A.toList.eraseIdx k:=by
     rw [← JL1 (L:=A.toList) (k:=k) (e:=A[k]) (fun i j x y p q r=>?_) (by simp [hk]),hAl,List.filter_filter]
     ·congr 1
      funext e
      by_cases q:e.born=A[k].born <;> simp [q,Bool.and_comm]
     ·have hpw:A.toList.Pairwise fun x y=>x.born≠y.born:=by rw [hAl];exact h5.pair.filter _
      rw [List.pairwise_iff_getElem] at hpw
      obtain ⟨hi,ei⟩:=List.getElem?_eq_some_iff.1 p
      obtain ⟨hj,ej⟩:=List.getElem?_eq_some_iff.1 q
      rcases Nat.lt_trichotomy i j with hij | hij | hij
      ·exact absurd (by rw [ei,ej];exact r) (hpw i j hi hj hij)
      ·exact hij
      ·exact absurd (by rw [ei,ej];exact r.symm) (hpw j i hj hi hij)
    have hal:A.toList[k]?=some A[k]:=by simp [hk]
    refine .inr ⟨m,E,c,s,n.push A[k].born,c,hbk,h2,h3,h5,h5,by rw [hf];simp [List.length_eraseIdx,h6,hpl],fun i e p q r=>?_,fun p q=>?_⟩
    rotate_left
    ·cases q
     refine ⟨rfl,A[k].born,A[k],by simp,?_,(h7 k _ _ hal hp).1,(h7 k _ _ hal hp).2⟩
     have hin:A[k]∈E.toList:=hAm _ (by simp)
     rw [← Array.find?_toList,List.find?_eq_some_iff_append]
     refine ⟨by simp,?_⟩
     obtain ⟨as,bs,hab⟩:=List.append_of_mem hin
     refine ⟨as,bs,hab,fun x hx=>?_⟩
     have hpw:E.toList.Pairwise fun x y=>x.born≠y.born:=h5.pair
     rw [hab,List.pairwise_append] at hpw
     have:=hpw.2.2 x hx A[k] (by simp)
     simpa using this
    rw [hf] at q
    rw [List.getElem?_eraseIdx] at q r
    split at q
    ·rename_i hi
     rw [if_pos hi] at r
     exact h7 i e p q r
    ·rename_i hi
     rw [if_neg hi] at r
     exact h7 (i+1) e p q r
   ·have hal:A.toList[k]?=some A[k]:=by simp [hk]
    exact tup3 (.gnd (.bool _)) (h7 k _ _ hal hp).1 (h7 k _ _ hal hp).2
theorem YH1 {r:Nat} {left:List (V×V)} {p:V×V} {vx:Value} (hW:W B w0 g h w) (hR:R g vx (.iter r)) (hr:h.get r=.miter left (some p)):zk0 B w0 g ((Instr.entry vx).run P w) (.tup [p.1,p.2]) h:=by
 obtain ⟨b,kk,rfl,hv,hm⟩:=hR.iter_inv
 have hobj:=hW.obj r _ hm
 rw [hr] at hobj
 rcases hobj with ⟨_,e,_⟩ | ⟨m,E,c,s,n,t,h1,h2,h3,h4,h5,h6,h7,h8⟩
 ·cases e
 ·have h1:w.heap[b]?=some (.mapIter (some m) s n t):=h1
  have hm':=JZ0 (w:=w) (fun o v e=>hW.shut _ _ _ (h2 o v e))
  obtain ⟨q1,st,e,q2,q3,q4,q5⟩:=h8 p rfl
  subst q1
  refine ⟨.tuple #[e.key,e.val],w,g,?_,Grown.refl _ _,hW,.tup rfl fun i v x hv hx=>?_⟩
  ·simp [Instr.entry,getObj,Sem.run,h1,hm',q2,q3]
  ·match i with
   | 0=>cases hv;cases hx;exact q4
   | 1=>cases hv;cases hx;exact q5
   | n+2=>simp at hx
theorem KD1 (hW:W B w0 g h w) {t:TypeId} {vm vk vx:Value} {m k x:V} {h':Heap} (hm:R g vm m) (hk:R g vk k) (hx:R g vx x) (hl:ZS0 P h t m k x=.skip h'):∃ w',(Instr.mapUpdate t vm vk vx).run P w=.ok () w'∧W B w0 g h' w':=by
 unfold ZS0 at hl
 split at hl
 ·cases hl
 ·rename_i kt e hkv
  have hu:=jh1 hkv
  split at hl
  ·rename_i r
   split at hl
   ·rename_i es hr
    cases hb:zf0 P kt k&&x.flat with
    | false=>rw [hb] at hl;cases hl
    | true =>
     rw [hb] at hl
     simp only [cond_true] at hl
     rw [Bool.and_eq_true] at hb
     obtain ⟨hf,hfl⟩:=hb
     split at hl
     ·rename_i es' hes
      cases hl
      obtain ⟨b,kk,rfl,hv,hmu⟩:=hm.map_inv
      have hobj:=hW.obj r _ hmu
      rw [hr] at hobj
      obtain ⟨hno,E,clock,h1,h2,h3,hbo⟩:=hobj
      have h1:w.heap[b]?=some (.map E clock):=h1
      have hE:EntsOk g E.toList es:=⟨by simpa using h2,fun i e p a b=>h3 i e p (by simpa using a) b⟩
      obtain ⟨d,hd⟩:∃ d,P.underlying kt=some d:=by
       rcases YF0 hf with ⟨_,_,_,hu',_⟩ | ⟨_,hu',_⟩ | ⟨_,hu',_⟩ <;> exact ⟨_,hu'⟩
      have hset:∀ o,(setObj b o).run P w=.ok () (blk w b o):=fun o=>by simp [setObj,Sem.run,h1];rfl
      have hobjs:∀ (E':Array MapEntry) (c':Nat) (es2:List (V×V)),EntsOk g E'.toList es2→BornOk E' c'→W B w0 g (h.set r (.map es2)) (blk w b (.map E' c')):=fun E' c' es2 hE' hb' =>
       hW.setObj (x:=(b,kk)) hmu hv rfl ⟨hno,E',c',yt0 w b _ (zJ0 h1),by simpa using hE'.1,fun i e p a b=>hE'.2 i e p (by simpa using a) b,hb'⟩ hno
      rcases qj2 hd hf hk es E.toList 0 es' hE hes with ⟨a,rfl⟩ | ⟨j,u,e',a,hj,hsb,rfl⟩
      ·refine ⟨blk w b (.map (E.push { key:=vk,val:=vx,born:=clock }) (clock+1)),?_,hobjs _ _ _ ?_ (hbo.push vk vx)⟩
       ·simp [Instr.mapUpdate,run_underlying hu,getObj,Qh1 h1,qg1 hf,XN0 hd a,hset]
       ·rw [Array.toList_push]
        refine ⟨by simp [h2],fun i e p hi hp=>?_⟩
        rw [List.getElem?_append] at hi hp
        have hl2:=hE.1
        split at hi
        ·rename_i hlt
         rw [if_pos (by omega)] at hp
         exact hE.2 i e p hi hp
        ·rename_i hlt
         rw [if_neg (by omega)] at hp
         rw [hl2] at hi
         cases hq:i-es.length with
         | zero=>rw [hq] at hi hp;simp at hi hp;subst hi;subst hp;exact ⟨hk,hx⟩
         | succ q=>rw [hq] at hi;simp at hi
      ·rw [Nat.zero_add] at a
       refine ⟨blk w b (.map (E.modify j fun e=>{ e with key:=vk,val:=vx }) clock),?_,hobjs _ _ _ ?_ (hbo.modify j vk vx)⟩
       ·have hj':E[j]?=some e':=by simpa using hj
        simp [Instr.mapUpdate,run_underlying hu,getObj,Qh1 h1,qg1 hf,XN0 hd a,hset,hj',Instr.keyThatStays,hsb]
       ·rw [Array.toList_modify]
        exact hE.modify hk hx
     ·cases hl
   ·cases hl
  ·cases hl
theorem Kt1 (hW:W B w0 g h w) {t:TypeId} {vl vc:Value} {kl kc:IntKind} {l c:Nat} {e:TypeId} {z:V} (he:qo0 P t=some e) (hz:zero P e=some z) (hl:R g vl (.int kl (.ofNat l))) (hc:R g vc (.int kc (.ofNat c)))
 (hle:l≤c) (hb:c*(P.bytesOf e+1)≤16777216) (h0:size P e≠0) (h1:z.cells.length=size P e) (hf:z.flat=true) :
 zk0 B w0 g ((Instr.makeSlice t vl vc).run P w) (.sl h.n 0 0 l none) (newRow h e (size P e) 0 (some c) (List.rep z l)):=by
 have:=hl.int_inv;subst this
 have:=hc.int_inv;subst this
 obtain ⟨i,zv,hi,hzv,hg⟩:=jA0 hz
 have hR:R g zv z:=.gnd (hg g.S)
 have hu:=zI0 he
 have hsz:size P e=i.size:=by simp [size,Program.cellsOf,hi]
 have hby:P.bytesOf e=i.bytes:=by simp [Program.bytesOf,hi]
 rw [hby,Nat.mul_add,Nat.mul_one] at hb
 have hrun:=run_make (P:=P) w t e i zv hu hi hzv kl kc (l:Int) (c:Int) (by omega) (by omega) (by
  have:((i.bytes*c:Nat):Int)≤281474976710656:=by rw [Nat.mul_comm];omega
  rwa [Int.natCast_mul] at this) (by omega)
 simp only [Int.toNat_natCast] at hrun
 have hzo:=qA1 (n:=c) (hR.cellsOk hf) h1 hf (Nat.pos_of_ne_zero h0)
 refine ⟨_,_,g.new h.n (w.heap.size,c,size P e) (some 0),hrun,Grown.new hW _ _,hW.newRow (by rw [size_madeCells,hsz]) (Nat.pos_of_ne_zero h0) (by rw [List.rep_eq];simpa using hle) (fun c' e=>by cases e;rfl) ?_ ?_,R.newSl hle⟩
 ·intro q x hx
  rw [List.rep_eq] at hx
  have:=List.eq_of_mem_replicate (List.mem_of_getElem? hx)
  subst this;exact ⟨h1,hf⟩
 ·intro q x j y hx hy
  rw [List.rep_eq] at hx
  have hq:=qd0 hx
  rw [List.length_replicate] at hq
  obtain ⟨v,a,b,d⟩:=hzo.rel q x j y (by rw [List.rep_eq,List.getElem?_replicate,if_pos (by omega)];rw [List.getElem?_replicate,if_pos hq] at hx;exact hx) hy
  refine ⟨v,?_,b,d⟩
  rw [hsz] at a ⊢
  have:(madeCells zv.cells (c*i.size))[q*i.size+j]?=(madeCells zv.cells (c*i.size)).toList[q*i.size+j]?:=by simp
  rw [this];exact a
theorem qI2 {P:Program} {w:World} {ts:Array TypeId} {ty t u e:TypeId} {kd:IntKind} {inf:TypeInfo} {z:Value} (h0:ts[0]?=some t) (h1:ts[1]?=some u) (ht:P.underlying t=some (.slice e)) (hu:P.underlying u=some (.int kd)) (hi:P.info? e=some inf) (hz:inf.zero=some z) (k:IntKind) {l:Nat} (hl:0<l) (hb:l*(inf.bytes+1)≤16777216) (hs:inf.size≠0) :
 (Builtin.append_ ts ty #[.slice none 0 0,.int k (l:Int)]).run P w=.ok (.slice (some ⟨w.heap.size,0,none⟩) l (grownCap w l 0 e)) (w.drew.alloc (.cells (Builtin.zeroCells z.cells l++Builtin.zeroCells z.cells (grownCap w l 0 e-l)) e)):=by
 have hb1:l*inf.bytes+l≤16777216:=by rw [Nat.mul_add,Nat.mul_one] at hb;exact hb
 have wl:IntKind.i64.wrap (l:Int)=l:=by rw [IntKind.wrap_i64];omega
 have n1:¬ ((l:Int)<0):=by omega
 have n2:¬ (281474976710656<(l:Int)*(inf.bytes:Int)):=by rw [← Int.natCast_mul];omega
 have n3:¬ (l=0):=by omega
 have n4:¬ (9223372036854775807<(l:Int)):=by omega
 have n5:¬ (281474976710656<Builtin.nextslicecap l 0*inf.bytes):=by
  have:=growslice_fits (need:=l) (old:=0) (bytes:=inf.bytes) hl (by omega)
  omega
 unfold Builtin.append_
 simp only [h0,h1,List.getElem?_toArray,List.getElem?_cons_zero,List.getElem?_cons_succ,Sem.run_bind,run_underlying ht,run_underlying hu,Result.andThen_ok,Sem.run_pure]
 simp [sizeOf,typeInfo,zeroValue,hi,hz,asInt,asIntOf,wl,n1,n2,n3,n4,n5,hs,Question.forced,Go.newRow,grownCap,Builtin.firstCells]
 intro q
 rcases Nat.mul_eq_zero.1 q with q | q
 ·omega
 ·exact absurd q hs
theorem XK1 {P:Program} {u:TypeId} (h:QN0 P u=true):∃ k,P.underlying u=some (.int k):=by
 unfold QN0 at h
 split at h
 ·rename_i k hu;exact ⟨k,hu⟩
 ·cases h
theorem Zg1 (hW:W B w0 g h w) {t u ty:TypeId} {s x y:V} {vs vx:Value} {h':Heap} (hs:R g vs s) (hx:R g vx x) (hu:QN0 P u=true) (ha:jI0 P t h s x=.val y h') :
 zk0 B w0 g ((Builtin.append_ #[t,u] ty #[vs,vx]).run P w) y h':=by
 obtain ⟨kd,hu⟩:=XK1 hu
 unfold jI0 at ha
 split at ha
 ·split at ha
  ·cases ha
  ·rename_i e hse
   split at ha
   ·cases ha
   ·rename_i z hz
    split at ha
    ·rename_i k l
     have hba:=Zm0 ha
     clear ha
     obtain ⟨hb,ha⟩:=hba
     cases ha
     simp only [Bool.and_eq_true,Nat.beq_eq,Nat.ble_eq,Nat.blt_eq,List.len_eq,Bool.not_eq_true'] at hb
     obtain ⟨⟨⟨⟨h1,h2⟩,h3'⟩,h4⟩,hf⟩:=hb
     have h3:size P e≠0:=fun q=>by rw [q] at h3';cases h3'
     change l*(P.bytesOf e+1)≤16777216 at h2
     have:=hs.nils_inv;subst this
     have:=hx.int_inv;subst this
     obtain ⟨i,zv,hi,hzv,hg⟩:=jA0 hz
     have hR:R g zv z:=.gnd (hg g.S)
     have hsz:size P e=i.size:=by simp [size,Program.cellsOf,hi]
     have hby:P.bytesOf e=i.bytes:=by simp [Program.bytesOf,hi]
     have hrun:=qI2 (P:=P) (w:=w) (ts:=#[t,u]) (ty:=ty) rfl rfl (zI0 hse) hu hi hzv k (l:=l) h1 (hby ▸ h2) (hsz ▸ h3)
     have hcap:=grownCap_ge w l 0 e
     obtain ⟨K,hK⟩:∃ K,grownCap w l 0 e=K:=⟨_,rfl⟩
     rw [hK] at hrun hcap
     have hpos:0<size P e:=Nat.pos_of_ne_zero h3
     have hcs:zv.cells.size=size P e:=by rw [(hR.cellsOk hf).size,h4]
     have hzo:=qA1 (n:=l) (hR.cellsOk hf) h4 hf hpos
     refine ⟨_,_,g.new h.n (w.heap.size,K,size P e) (some 0),hrun,Grown.new hW _ _,?_,R.newSl hcap⟩
     refine W.newRow (hW.drew (w.drawn+1)) (C:=Builtin.zeroCells zv.cells l++Builtin.zeroCells zv.cells (K-l)) ?_ hpos (by rw [List.rep_eq];simpa using hcap) (fun c e=>by cases e) ?_ ?_
     ·simp only [Array.size_append,size_zeroCells,hcs]
      rw [← Nat.add_mul]
      congr 1;omega
     ·intro q x hx
      rw [List.rep_eq] at hx
      have:=List.eq_of_mem_replicate (List.mem_of_getElem? hx)
      subst this;exact ⟨h4,hf⟩
     ·intro q x j y hx hy
      obtain ⟨v,a,b,d⟩:=hzo.rel q x j y hx hy
      refine ⟨v,?_,b,d⟩
      have e2:Builtin.zeroCells zv.cells l=(Array.range (l*size P e)).map (zv.cells[·%zv.cells.size]!):=by rw [← hcs];rfl
      have hlt:=qd0 a
      rw [e2,Array.getElem?_append_left (by simpa using hlt),← Array.getElem?_toList]
      exact a
    ·cases ha
 ·cases ha
def qw0 (P:Program) (B:Ns) (w0:World) (g:Gh) (r:Result Next):Rs→Prop
 | .val y h=>∃ v w g',r=.ok (.value v) w∧Grown B g g'∧W B w0 g' h w∧R g' v y
 | .skip h=>∃ w g',r=.ok .skip w∧Grown B g g'∧W B w0 g' h w
 | .call f args h=>∃ us w g',r=(callFunc f us).run P w∧Grown B g g'∧W B w0 g' h w∧Rs' g' us args
 | .yield l args h=>∃ us b k w g',r=(Instr.yield b us).run P w∧Grown B g g'∧W B w0 g' h w∧g'.vr l=none∧g'.mu l=some (b,k)∧Rs' g' us args
 | .panic y h=>∃ v w g',r=.halt (.panic v) w∧Grown B g g'∧W B w0 g' h w∧R g' v y
 | .defer f args h=>∃ us cap w g',r=.ok (.defer { target:=.fn (.func f) cap,args:=us }) w∧Grown B g g'∧W B w0 g' h w∧Rs' g' (us++cap) args
 | .recover h=>∃ w g',r=.ok .recover w∧Grown B g g'∧W B w0 g' h w
 | .stuck=>True
section
variable {P:Program} {B:Ns} {w0:World} {g:Gh} {h:Heap} {w:World} {G:Nat→Option V} {n:Nat} {tm:T V} {a:Act}
def zd0 (s:Sem Value):Sem Next:=do pure (.value (← s))
theorem zz0 {s:Sem Value} {y:V} {h':Heap} (hv:zk0 B w0 g (s.run P w) y h'):qw0 P B w0 g ((zd0 s).run P w) (.val y h'):=by
 obtain ⟨v,w',g',e,h1,h2,h3⟩:=hv
 exact ⟨v,w',g',by simp [zd0,e],h1,h2,h3⟩
theorem Xb0 {s:Sem Value} {r:Rs} (hr:∀ y h',r=.val y h'→zk0 B w0 g (s.run P w) y h') (ho:r=.stuck∨∃ y h',r=.val y h'):qw0 P B w0 g ((zd0 s).run P w) r:=by
 rcases ho with rfl | ⟨y,h',rfl⟩
 ·trivial
 ·exact zz0 (hr y h' rfl)
theorem YH0 {s:Sem Value} {r:Rs} (hv:ValR B w0 g (s.run P w) r):qw0 P B w0 g ((zd0 s).run P w) r:=by
 cases r with
 | val y h'=>exact zz0 hv
 | stuck=>trivial
 | _=>exact hv.elim
theorem ZD0 (hW:W B w0 g h w) {s:Sem Value} {o:Option V} (hs:∀ y,o=some y→∃ v,s.run P w=.ok v w∧R g v y):qw0 P B w0 g ((zd0 s).run P w) (qj0 h o):=by
 cases o with
 | none=>trivial
 | some y =>
  obtain ⟨v,h1,h2⟩:=hs y rfl
  exact zz0 ⟨v,w,g,h1,Grown.refl _ _,hW,h2⟩
theorem jZ0 (hW:W B w0 g h w) (hs:Slots g n tm a.tmps) (hG:GlobOk G g.S) {s:Value→Sem Value} {x:Operand} {f:V→Option V} (hf:∀ v x y,R g v x→f x=some y→∃ u,(s v).run P w=.ok u w∧R g u y):qw0 P B w0 g ((zd0 (s (a.eval x))).run P w) (o1 G tm h x f):=by
 unfold o1
 cases he:ev G tm x with
 | none=>trivial
 | some v =>
  exact ZD0 hW fun y hy=>hf _ _ _ (qD0 hs hG he) hy
theorem Xa0 (hW:W B w0 g h w) (hs:Slots g n tm a.tmps) (hG:GlobOk G g.S) {s:Value→Value→Sem Value} {x y:Operand} {f:V→V→Option V} (hf:∀ v x u y z,R g v x→R g u y→f x y=some z→∃ t,(s v u).run P w=.ok t w∧R g t z) :
 qw0 P B w0 g ((zd0 (s (a.eval x) (a.eval y))).run P w) (o2 G tm h x y f):=by
 unfold o2
 cases he:ev G tm x with
 | none=>trivial
 | some v =>
  cases he':ev G tm y with
  | none=>simp only [he'];trivial
  | some u =>
   simp only [he']
   exact ZD0 hW fun z hz=>hf _ _ _ _ _ (qD0 hs hG he) (qD0 hs hG he') hz
theorem KP0 (hs:Slots g n tm a.tmps) (hG:GlobOk G g.S) {ps:Array (Nat×Operand)} {l:List (Nat×V)} (he:evP G tm ps.toList=some l):PartsOk g (ps.map fun (i,x)=>(i,a.eval x)).toList l:=by
 obtain ⟨h1,h2⟩:=zH0 he
 refine ⟨by simp [h1],fun i u p hu hp=>?_⟩
 simp only [Array.toList_map,List.getElem?_map] at hu
 cases hi:ps.toList[i]? with
 | none=>rw [hi] at hu;cases hu
 | some o =>
  rw [hi] at hu;cases hu
  obtain ⟨y,hy,hf⟩:=h2 i o hi
  rw [hp] at hy;cases hy
  split at hf
  ·rename_i y' hy'
   cases hf
   exact ⟨rfl,qD0 hs hG hy'⟩
  ·cases hf
theorem KO0 (hs:Slots g n tm a.tmps) (hG:GlobOk G g.S) {x:Option Operand} {y:Option V} (he:evO G tm x=some y):OR g (x.map a.eval) y:=by
 cases x with
 | none=>cases he;exact .none
 | some x =>
  unfold evO at he
  simp only at he
  split at he
  ·rename_i v hv;cases he;exact .some (qD0 hs hG hv)
  ·cases he
theorem Gc1 {P:Program} {w:World} {g:Gh} {v:Value} {x y:V} (hR:R g v x) (hn:QV0 x=some y):(match v with
 | .pointer none | .nilIface | .nilFunc=>(runtimePanic .nilDeref:Sem Next)
 | .func (.method name) first captured =>
  match (first[0]?:Option Value) with
  | some .nilIface=>runtimePanic .nilDeref
  | some (.iface t w)=>do
   if (← nilAhead ((← program).types.size+Made.depth) t w name) != some false then
    unsupported (.noEntry "op/nilCheck.the method's receiver behind this interface value is a nil pointer, or cannot be seen to be none, and the arguments act or may panic (ledger 612)")
   pure (.value (.func (.method name) first captured))
  | _=>pure (.value (.func (.method name) first captured))
 | x=>pure (.value x)).run P w=.ok (.value v) w∧R g v y:=by
 unfold QV0 at hn
 split at hn
 ·cases hn
  obtain ⟨ad,_,rfl,_⟩:=hR.ptr_inv
  exact ⟨rfl,hR⟩
 ·cases hn
  have hg:=hR.gptr_inv
  cases hg
  exact ⟨rfl,hR⟩
 ·rename_i f p q
  split at hn
  ·cases hn
  ·rename_i hm
   cases hn
   cases f with
   | yield l=>obtain ⟨b,k,rfl,_⟩:=hR.yield_inv;exact ⟨rfl,hR⟩
   | func f=>obtain ⟨c,d,rfl,_⟩:=hR.func_inv (fun l=>by simp);exact ⟨rfl,hR⟩
   | method f=>exact absurd rfl (hm f)
   | methodOf t f=>obtain ⟨c,d,rfl,_⟩:=hR.func_inv (fun l=>by simp);exact ⟨rfl,hR⟩
   | via t p f q=>obtain ⟨c,d,rfl,_⟩:=hR.func_inv (fun l=>by simp);exact ⟨rfl,hR⟩
 ·cases hn
theorem Ga1 {P:Program} {t:TypeId} (h:GG0 P t=true):P.concrete t=true:=by
 unfold GG0 at h
 unfold Program.concrete
 split at h
 ·cases h
 ·rename_i d hd hu
  rw [hu]
  cases d <;> first | rfl | exact absurd rfl (hd _)
 ·cases h
theorem yc2 {P:Program} {w:World} {g:Gh} {v:Value} {x y:V} {xt t:TypeId} {ok:Bool} (hR:R g v x) (ht:AM.typeAssert P x t ok=some y):∃ u,(Instr.typeAssert v xt t ok).run P w=.ok u w∧R g u y:=by
 have tup2:∀ {a b:Value} {x y:V},R g a x→R g b y→R g (.tuple #[a,b]) (.tup [x,y]):=fun h1 h2=>.tup rfl fun i v x hv hx=>by
  match i with
  | 0=>cases hv;cases hx;exact h1
  | 1=>cases hv;cases hx;exact h2
  | n+2=>simp at hx
 unfold AM.typeAssert at ht
 split at ht
 ·cases ht
 ·cases ht
 ·rename_i d hne hu
  have hni:∀ ms,d≠.interface ms:=fun ms e=>hne ms (by rw [e])
  split at ht
  ·have:=hR.nili_inv;subst this
   obtain ⟨hb,ht⟩:=qf0 ht rfl
   subst hb
   split at ht
   ·rename_i z hz
    cases ht
    obtain ⟨i,zv,hi,hzv,hg⟩:=jA0 hz
    refine ⟨.tuple #[zv,.bool false],?_,tup2 (.gnd (hg _)) (.gnd (.bool _))⟩
    cases d <;> first | exact absurd rfl (hni _) | simp [Instr.typeAssert,run_underlying hu,jx0 hi hzv]
   ·cases ht
  ·rename_i t' x'
   obtain ⟨v',rfl,hv'⟩:=hR.iface_inv
   cases hq:Nat.beq t' t with
   | true =>
    rw [hq] at ht
    rw [Nat.beq_eq] at hq;subst hq
    cases ok with
    | true =>
     cases ht
     refine ⟨.tuple #[v',.bool true],?_,tup2 hv' (.gnd (.bool _))⟩
     cases d <;> first | exact absurd rfl (hni _) | simp [Instr.typeAssert,run_underlying hu]
    | false =>
     cases ht
     refine ⟨v',?_,hv'⟩
     cases d <;> first | exact absurd rfl (hni _) | simp [Instr.typeAssert,run_underlying hu]
   | false =>
    rw [hq] at ht
    have hne':t'≠t:=fun e=>by subst e;simp at hq
    simp only [cond_false] at ht
    obtain ⟨hb,ht⟩:=qf0 ht rfl
    subst hb
    split at ht
    ·rename_i z hz
     cases ht
     obtain ⟨i,zv,hi,hzv,hg⟩:=jA0 hz
     refine ⟨.tuple #[zv,.bool false],?_,tup2 (.gnd (hg _)) (.gnd (.bool _))⟩
     cases d <;> first | exact absurd rfl (hni _) | simp [Instr.typeAssert,run_underlying hu,jx0 hi hzv,hne']
    ·cases ht
  ·cases ht
theorem appL (x y:List V):List.app x y=x++y:=List.app_eq x y
theorem Rs'.append {g:Gh} {a b:Array Value} {x y:List V} (h:Rs' g a x) (k:Rs' g b y):Rs' g (a++b) (x++y):=by
 refine ⟨by simp [h.1,k.1],fun i v z hv hz=>?_⟩
 rw [Array.getElem?_append] at hv
 rw [List.getElem?_append] at hz
 rw [h.1] at hv
 split at hv
 ·rename_i hi;rw [if_pos hi] at hz;exact h.2 i v z hv hz
 ·rename_i hi;rw [if_neg hi] at hz;exact k.2 _ v z hv hz
theorem Rs'.nil {g:Gh}:Rs' g #[] []:=⟨rfl,fun i v x h=>by simp at h⟩
theorem XL1 {P:Program} {t:TypeId} (h:Xl0 P t=true):∃ e,P.underlying t=some (.pointer e):=by
 unfold Xl0 at h
 split at h
 ·exact ⟨_,by assumption⟩
 ·cases h
theorem zc1 (hW:W B w0 g h w) {vf:Value} {f:V} {us:Array Value} {args:List V} (hR:R g vf f) (hs:Rs' g us args) :
 qw0 P B w0 g ((do let d ← Deferred.ofValue vf us;invoke d.target d.args:Sem Next).run P w) (jL0 P h f args):=by
 unfold jL0
 split
 ·rename_i fn first cap
  split
  ·rename_i q
   obtain ⟨c,d,rfl,h1,h2,h3,h4⟩:=hR.func_inv (fun l=>by simp)
   refine ⟨c++us++d,w,g,?_,Grown.refl _ _,hW,?_⟩
   ·simp [Deferred.ofValue,invoke]
   ·rw [appL,appL]
    exact (Rs'.append ⟨h1,h3⟩ hs).append ⟨h2,h4⟩
  ·rename_i t path q byPtr
   cases hb:(path.isEmpty&&byPtr&&Xl0 P t) with
   | false=>trivial
   | true =>
    simp only [Bool.and_eq_true] at hb
    obtain ⟨⟨hb1,rfl⟩,hb3⟩:=hb
    simp only [cond_true]
    split
    ·rename_i r ver off
     obtain ⟨c,d,rfl,h1,h2,h3,h4⟩:=hR.func_inv (fun l=>by simp)
     obtain ⟨e,hu⟩:=XL1 hb3
     have hp:path.toList=[]:=by simpa using hb1
     refine ⟨c++us,w,g,?_,Grown.refl _ _,hW,?_⟩
     ·obtain ⟨x,hx⟩:=zy0 c 0 (by rw [h1];simp)
      have hc:c=#[x]:=by
       have hcs:c.size=1:=by rw [h1];rfl
       apply Array.ext (by simp [hcs])
       intro i hi _
       have:i=0:=by omega
       subst this
       rw [Array.getElem?_eq_getElem (by omega)] at hx
       simpa using hx
      subst hc
      have h0:(#[x]++us)[0]?=some x:=by rw [Array.getElem?_append];simp
      simp [Deferred.ofValue,invoke,receiverVia,hp,follow,receiverAt,run_underlying hu,Place.get,h0]
     ·rw [appL];exact Rs'.append ⟨h1,h3⟩ hs
    ·trivial
  ·rename_i l
   obtain ⟨b,k,rfl,rfl,rfl,hv,hm⟩:=hR.yield_inv
   refine ⟨us,b,k,w,g,?_,Grown.refl _ _,hW,hv,hm,?_⟩
   ·simp [Deferred.ofValue,invoke]
   ·rw [appL];exact hs
  ·trivial
 ·trivial
theorem Zf1 (P:Program) (h:Heap) (t:TypeId) (s x:V):jI0 P t h s x=.stuck∨∃ y h',jI0 P t h s x=.val y h':=by
 unfold jI0
 split
 ·split
  ·exact .inl rfl
  ·split
   ·exact .inl rfl
   ·split
    ·cases (Nat.blt 0 _&&_&&_&&_&&_) with
     | true=>exact .inr ⟨_,_,rfl⟩
     | false=>exact .inl rfl
    ·exact .inl rfl
 ·exact .inl rfl
theorem Zi1 (P:Program) (h:Heap) (t:TypeId) (s x:V):append P t h s x=.stuck∨∃ y h',append P t h s x=.val y h':=by
 have fr:∀ (e sz n:Nat) (es:List V),yl0 P h e sz n es=.stuck∨∃ y h',yl0 P h e sz n es=.val y h':=by
  intro e sz n es;unfold yl0
  cases (yG0 P e&&Nat.ble n qL0&&Nat.ble (Nat.mul n (P.bytesOf e)) qL0) with
  | true=>exact .inr ⟨_,_,rfl⟩
  | false=>exact .inl rfl
 have bf:∀ (b:Bool) (r:Rs),(r=.stuck∨∃ y h',r=.val y h')→(bif b then r else .stuck)=.stuck∨∃ y h',(bif b then r else .stuck)=.val y h':=fun b r hr=>by
  cases b with
  | true=>exact hr
  | false=>exact .inl rfl
 unfold append
 split
 ·exact .inl rfl
 ·split
  ·exact .inl rfl
  ·rename_i e _ _ new _
   cases Nat.beq (size P e) 0 with
   | true=>exact .inl rfl
   | false =>
    simp only [cond_false]
    cases qb0 new with
    | true =>
     simp only [cond_true]
     split
     ·exact .inr ⟨_,_,rfl⟩
     ·exact .inr ⟨_,_,rfl⟩
     ·exact .inr ⟨_,_,rfl⟩
     ·exact .inl rfl
    | false =>
     simp only [cond_false]
     split
     ·exact fr _ _ _ _
     ·split
      ·exact bf _ _ (fr _ _ _ _)
      ·exact .inl rfl
     ·unfold Qx0
      split
      ·apply bf
       split
       ·rename_i c' _
        cases Nat.ble (Nat.add _ (List.len new)) c' with
        | true=>exact bf _ _ (.inr ⟨_,_,rfl⟩)
        | false=>exact fr _ _ _ _
       ·exact bf _ _ (.inr ⟨_,_,rfl⟩)
      ·exact .inl rfl
     ·exact .inl rfl
theorem ZG1 (hW:W B w0 g h w) {b:Builtin} {ts:Array TypeId} {ty:TypeId} {cs:Array Bool} {us:Array Value} {args:List V} (hb:b≠.recover) (hs:Rs' g us args):qw0 P B w0 g ((Go.builtin b ts ty cs us).run P w) (AM.builtin P b ts.toList h args):=by
 unfold AM.builtin
 split
 ·trivial
 ·rename_i t ts' hts
  split
  ·trivial
  ·rename_i x rest
   obtain ⟨us',hus⟩:∃ us':List Value,us=us'.toArray:=⟨us.toList,rfl⟩
   subst hus
   have hts2:ts=(t::ts').toArray:=by apply Array.ext';simpa using hts
   subst hts2
   cases us' with
   | nil=>have:=hs.1;simp at this
   | cons v vs =>
    have hx:R g v x:=hs.2 0 v x rfl rfl
    have hlen:vs.length=rest.length:=by have:=hs.1;simpa using this
    have hrest:∀ (i:Nat) u y,vs[i]?=some u→rest[i]?=some y→R g u y:=fun i u y a b=>hs.2 (i+1) u y (by simpa using a) (by simpa using b)
    have two:∀ y,rest=[y]→∃ u,vs=[u]∧R g u y:=fun y e=>by
     subst e
     cases vs with
     | nil=>simp at hlen
     | cons u us =>
      cases us with
      | nil=>exact ⟨u,rfl,hrest 0 u y rfl rfl⟩
      | cons _ _=>simp at hlen
    have one:rest=[]→vs=[]:=fun e=>by
     subst e
     cases vs with
     | nil=>rfl
     | cons _ _=>simp at hlen
    split
    ·split
     ·rw [one rfl]
      split
      ·rename_i n hn
       exact zz0 ⟨_,w,g,XY1 hW hx hn,Grown.refl _ _,hW,.gnd (.int _ _)⟩
      ·trivial
     ·trivial
    ·split
     ·rename_i y
      obtain ⟨u,rfl,hu⟩:=two y rfl
      split
      ·rename_i ut
       cases hq:zo0 P ut with
       | false =>
        change qw0 P B w0 g _ (bif QN0 P ut then jI0 P t h x y else .stuck)
        cases hi:QN0 P ut with
        | false=>trivial
        | true=>exact Xb0 (s:=Builtin.append_ #[t,ut] ty #[v,u]) (fun y' h' e=>Zg1 hW hx hu hi e) (Zf1 P h t x y)
       | true=>exact Xb0 (s:=Builtin.append_ #[t,ut] ty #[v,u]) (fun y' h' e=>Zj1 hW hx hu hq e) (Zi1 P h t x y)
      ·trivial
     ·trivial
    ·split
     ·rw [one rfl]
      exact YH0 (s:=Builtin.cap_ _ ty _) (Zo1 hW hx)
     ·trivial
    ·split
     ·rename_i y
      obtain ⟨u,rfl,hu⟩:=two y rfl
      exact YH0 (s:=Builtin.copy_ _ ty _) (Yf1 hW hx hu)
     ·trivial
    ·refine ZD0 hW fun y hy=>?_
     obtain ⟨u,h1,h2⟩:=yl1 (P:=P) (w:=w) Builtin.max2 max2 (fun a b c=>KE1 a b c) rest vs x v y hlen hrest hx hy
     exact ⟨u,by simpa [Builtin.max_] using h1,h2⟩
    ·refine ZD0 hW fun y hy=>?_
     obtain ⟨u,h1,h2⟩:=yl1 (P:=P) (w:=w) Builtin.min2 min2 (fun a b c=>KI1 a b c) rest vs x v y hlen hrest hx hy
     exact ⟨u,by simpa [Builtin.min_] using h1,h2⟩
    ·split
     ·rw [one rfl]
      exact YH0 (s:=Builtin.clear_ _ ty _) (Zp1 hW hx)
     ·trivial
    ·split
     ·rw [one rfl]
      exact YH0 (s:=Builtin.unsafeSliceData_ _ ty _) (Zr1 hW hx)
     ·trivial
    ·split
     ·rename_i y
      obtain ⟨u,rfl,hu⟩:=two y rfl
      split
      ·exact YH0 (s:=Builtin.unsafeString_ _ ty _) (Zs1 hW hx hu)
      ·trivial
     ·trivial
    ·trivial
theorem GH1 (hW:W B w0 g h w) (hs:Slots g n tm a.tmps) (hG:GlobOk G g.S) {c x y:Operand}:qw0 P B w0 g ((do pure (.value (if ← asBool (a.eval c) then a.eval x else a.eval y)):Sem Next).run P w) (yY0 G tm h c x y):=by
 unfold yY0
 split
 ·rename_i t he
  have hb:=(qD0 hs hG he).bool_inv
  rw [hb]
  cases t with
  | true =>
   cases hx:ev G tm x with
   | none=>simp only [];trivial
   | some v=>simp only [];exact ⟨a.eval x,w,g,by simp [asBool],Grown.refl _ _,hW,qD0 hs hG hx⟩
  | false =>
   cases hx:ev G tm y with
   | none=>simp only [];trivial
   | some v=>simp only [];exact ⟨a.eval y,w,g,by simp [asBool],Grown.refl _ _,hW,qD0 hs hG hx⟩
 ·trivial
theorem qR1 (h:Heap) (e:TypeId) (z:V):Qz0 h e z=.stuck∨∃ y h',Qz0 h e z=.val y h':=by
 unfold Qz0
 cases (z.flat&&!(Nat.beq (List.len z.cells) 0)) with
 | true=>exact .inr ⟨_,_,rfl⟩
 | false=>exact .inl rfl
theorem Zb1 (P:Program) (h:Heap) (e:TypeId):ZX0 P h e=.stuck∨∃ y h',ZX0 P h e=.val y h':=by
 unfold ZX0
 split
 ·exact qR1 _ _ _
 ·exact .inl rfl
theorem qw2 (ρ:Operand→Value) (f:Operand) (args:Array Operand) (ats:Array TypeId) (ty:TypeId):resolve ρ { callee:=.value f,args:=args,argTypes:=ats } ty=Deferred.ofValue (ρ f) (args.map ρ):=rfl
theorem JC0 (hs:Slots g n tm a.tmps) (hG:GlobOk G g.S) {xs:Array Operand} {ys:List V} (he:qc0 (ev G tm) xs.toList=some ys):Rs' g (xs.map a.eval) ys:=by
 have:=JB1 hs hG he
 have e:(xs.toList.map a.eval).toArray=xs.map a.eval:=by apply Array.ext';simp
 rw [e] at this;exact this
theorem ZU1 (hW:W B w0 g h w) (hs:Slots g n tm a.tmps) (hG:GlobOk G g.S) {c:Call} {ty:TypeId}:qw0 P B w0 g ((do let d ← resolve a.eval c ty;invoke d.target d.args:Sem Next).run P w) (zw0 P G tm h c):=by
 obtain ⟨callee,args,ats⟩:=c
 unfold zw0
 simp only
 split
 ·trivial
 ·rename_i ys hys
  have hargs:=JC0 hs hG hys
  split
  ·rename_i b
   split
   ·exact ⟨w,g,by simp [resolve,invoke,Go.builtin],Grown.refl _ _,hW⟩
   ·rename_i b' hb
    have:=ZG1 (P:=P) (ts:=ats) (ty:=ty) (cs:=args.map fun | .const _=>true | _=>false) hW (b:=b) (by intro e;subst e;exact hb rfl) hargs
    have e:(do let d ← resolve a.eval { callee:=.builtin b,args:=args,argTypes:=ats } ty;invoke d.target d.args:Sem Next).run P w=(Go.builtin b ats ty (args.map fun | .const _=>true | _=>false) (args.map a.eval)).run P w:=by
     simp [resolve,invoke];rfl
    rw [e];exact this
  ·rename_i f
   split
   ·rename_i fv hf
    exact zc1 hW (qD0 hs hG hf) hargs
   ·trivial
  ·trivial
theorem ZB1 (hW:W B w0 g h w) (hs:Slots g n tm a.tmps) (hG:GlobOk G g.S) {t:TypeId} {len:Nat} {ps:Array (Nat×Operand)}:qw0 P B w0 g ((zd0 (Instr.buildSlice t len (ps.map fun (i,x)=>(i,a.eval x)))).run P w) (GH0 P G tm h t len ps):=by
 unfold GH0
 split
 ·trivial
 ·rename_i l hl
  split
  ·trivial
  ·rename_i e he
   split
   ·trivial
   ·rename_i z hz
    cases hb:(Nat.beq (size P e) 0||!(Nat.ble (Nat.mul len (size P e)) 65536)||!(Nat.beq (List.len z.cells) (size P e))||!z.flat) with
    | true=>trivial
    | false =>
     simp only [cond_false]
     split
     ·rename_i es hes
      simp only [Bool.or_eq_false_iff,Bool.not_eq_false',Nat.ble_eq,Nat.beq_eq,List.len_eq] at hb
      obtain ⟨⟨⟨h1,h2⟩,h3⟩,h4⟩:=hb
      exact zz0 (ZC1 hW (KP0 hs hG hl) he hz (fun q=>by rw [q] at h1;cases h1) h2 h3 h4 hes)
     ·trivial
theorem ZD1 (hW:W B w0 g h w) (hs:Slots g n tm a.tmps) (hG:GlobOk G g.S) {t:TypeId} {ps:Array (Nat×Operand)}:qw0 P B w0 g ((zd0 (Instr.build t (ps.map fun (i,x)=>(i,a.eval x)))).run P w) (yV0 P G tm h t ps):=by
 unfold yV0
 split
 ·rename_i l hl
  exact ZD0 hW fun y hy=>ZE1 (KP0 hs hG hl) hy
 ·trivial
theorem jp1 (hW:W B w0 g h w) (hs:Slots g n tm a.tmps) (hG:GlobOk G g.S) {x:Operand}:qw0 P B w0 g ((pure (.value (a.eval x)):Sem Next).run P w) (yX0 G tm h x):=by
 unfold yX0
 cases he:ev G tm x with
 | none=>trivial
 | some v=>exact ⟨_,w,g,rfl,Grown.refl _ _,hW,qD0 hs hG he⟩
theorem ZA1 (hW:W B w0 g h w) (hs:Slots g n tm a.tmps) (hG:GlobOk G g.S) {e:TypeId} {x:Operand}:qw0 P B w0 g ((zd0 (Instr.box e (a.eval x))).run P w) (oBox G tm h e x):=by
 unfold oBox
 split
 ·rename_i z hz
  exact Xb0 (fun y h' e'=>qS1 hW (qD0 hs hG hz) e') (qR1 h e z)
 ·trivial
theorem zJ2 (hW:W B w0 g h w) (hs:Slots g n tm a.tmps) (hG:GlobOk G g.S) {t:TypeId} {x y:Operand}:qw0 P B w0 g ((do Instr.storeAt t (a.eval x) (a.eval y);pure .skip:Sem Next).run P w) (yn0 P G tm h t x y):=by
 unfold yn0
 split
 ·rename_i av hav
  split
  ·rename_i xv hxv
   split
   ·rename_i h' hst
    obtain ⟨w',h1,h2⟩:=zL2 (P:=P) hW (qD0 hs hG hav) (qD0 hs hG hxv) hst
    exact ⟨w',g,by simp [h1],Grown.refl _ _,h2⟩
   ·trivial
  ·trivial
 ·trivial
theorem Kq1 (hW:W B w0 g h w) (hs:Slots g n tm a.tmps) (hG:GlobOk G g.S) {f:Fn} {x y:Array Operand}:qw0 P B w0 g ((zd0 (Instr.makeFunc f (x.map a.eval) (y.map a.eval))).run P w) (Qi0 G tm h f x y):=by
 unfold Qi0
 split
 ·trivial
 ·rename_i f' hf
  split
  ·rename_i p hp
   split
   ·rename_i q hq
    have h1:=JC0 hs hG hp
    have h2:=JC0 hs hG hq
    exact zz0 ⟨_,w,g,rfl,Grown.refl _ _,hW,.func hf h1.1 h2.1 h1.2 h2.2⟩
   ·trivial
  ·trivial
theorem Kr1 (hW:W B w0 g h w) {t:TypeId} {r:Option Operand}:qw0 P B w0 g ((zd0 (Instr.makeMap t (r.map a.eval))).run P w) (GI0 h r):=by
 unfold GI0
 split
 ·refine zz0 ⟨.map (some w.heap.size),{ w with heap:=w.heap.push (.map #[] 0) },g.new h.n (w.heap.size,0,0) none,?_,Grown.new hW _ _,?_,?_⟩
  ·simp [Instr.makeMap];try rfl
  ·exact hW.alloc (.map #[] 0) (.map []) 0 0 ⟨fun o v=>hW.noS (Nat.le_refl _),#[],0,jl0 w _,rfl,(fun i e p q=>by simp at q),(fun i e q=>by simp at q),fun i j e e' q=>by simp at q⟩
  ·exact .map (k:=(0,0)) (by simp [Gh.new]) (by simp [Gh.new])
 ·trivial
theorem zq2 {P:Program} {h:Heap} {t:TypeId} {x y:V} {lo hi mx:Option V} (hs:slice P h t x lo hi mx=some y):P.underlying t=some .string∨∃ e,P.underlying t=some (.slice e):=by
 by_cases h1:zm0 P t=true
 ·exact .inl (Xm0 h1)
 ·cases h2:qo0 P t with
  | some e=>exact .inr ⟨e,zI0 h2⟩
  | none =>
   exfalso
   have h1':zm0 P t=false:=by simpa using h1
   unfold slice at hs
   split at hs
   ·cases hs
   ·split at hs
    ·cases hs
    ·split at hs
     ·split at hs
      ·rw [h1'] at hs;cases hs
      ·cases hs
     ·rw [h2] at hs;split at hs <;> simp_all
     ·rw [h2] at hs;split at hs <;> simp_all
     ·rw [h2] at hs;split at hs <;> simp_all
     ·rw [h2] at hs;split at hs <;> simp_all
     ·cases hs
theorem zi2 {P:Program} {w:World} {t:TypeId} {v:Value} {lo hi mx:Option Value} (h:P.underlying t=some .string∨∃ e,P.underlying t=some (.slice e)):(Instr.sliceAt t v lo hi mx).run P w=(Instr.slice t v lo hi mx).run P w:=by
 rcases h with h | ⟨e,h⟩ <;> simp [Instr.sliceAt,run_underlying h]
theorem zo2 (hW:W B w0 g h w) (hs:Slots g n tm a.tmps) (hG:GlobOk G g.S) {t:TypeId} {x:Operand} {lo hi mx:Option Operand}:qw0 P B w0 g ((zd0 (Instr.sliceAt t (a.eval x) (lo.map a.eval) (hi.map a.eval) (mx.map a.eval))).run P w) (yZ0 P G tm h t x lo hi mx):=by
 unfold yZ0
 split
 ·trivial
 ·rename_i xv hx
  split
  ·trivial
  ·rename_i lov hlo
   split
   ·trivial
   ·rename_i hiv hhi
    split
    ·trivial
    ·rename_i mxv hmx
     exact ZD0 hW fun y hy=>by
      rw [zi2 (zq2 hy)]
      exact zp2 hW (qD0 hs hG hx) (KO0 hs hG hlo) (KO0 hs hG hhi) (KO0 hs hG hmx) hy
theorem JF1 (hW:W B w0 g h w) (hs:Slots g n tm a.tmps) (hG:GlobOk G g.S) {t:TypeId} {x:Operand} {f:Nat}:qw0 P B w0 g ((zd0 (Instr.fieldAt t (a.eval x) f)).run P w) (Qg0 P G tm h t x f):=by
 unfold Qg0
 split
 ·rename_i ft k hf
  cases hz:Nat.beq (size P ft) 0 with
  | true=>trivial
  | false=>exact jZ0 (s:=fun v=>Instr.fieldAt t v f) hW hs hG fun v x y hR hy=>JG1 hW hR hf (fun q=>by rw [q] at hz;cases hz) hy
 ·trivial
theorem JI1 (hW:W B w0 g h w) (hs:Slots g n tm a.tmps) (hG:GlobOk G g.S) {t:TypeId} {x:Operand} {f:Nat}:qw0 P B w0 g ((zd0 (Instr.field t (a.eval x) f)).run P w) (Qf0 P G tm h t x f):=by
 unfold Qf0
 split
 ·rename_i ft k hf
  refine jZ0 (s:=fun v=>Instr.field t v f) hW hs hG fun v x y hR hy=>?_
  split at hy
  ·exact JJ1 hR hf hy
  ·cases hy
 ·trivial
theorem qo2 (hW:W B w0 g h w) (hs:Slots g n tm a.tmps) (hG:GlobOk G g.S) {t:TypeId} {x:Operand}:qw0 P B w0 g ((zd0 (Instr.range t (a.eval x))).run P w) (Yb0 P G tm h t x):=by
 unfold Yb0
 split
 ·rename_i hu
  split
  ·rename_i s hs'
   exact zz0 (qp2 hW hu (qD0 hs hG hs'))
  ·trivial
 ·rename_i hu
  split
  ·rename_i r hx
   split
   ·rename_i es hr
    exact zz0 (qm2 hW hu (qD0 hs hG hx) hr)
   ·trivial
  ·rename_i hx
   exact zz0 (qn2 hW hu (qD0 hs hG hx))
  ·trivial
 ·trivial
theorem YG1 (hW:W B w0 g h w) (hs:Slots g n tm a.tmps) (hG:GlobOk G g.S) {x:Operand}:qw0 P B w0 g ((zd0 (Instr.entry (a.eval x))).run P w) (ZY0 G tm h x):=by
 unfold ZY0
 split
 ·rename_i r hr
  split
  ·split
   ·rename_i left p ho
    exact zz0 (YH1 hW (qD0 hs hG hr) ho)
   ·trivial
  ·trivial
 ·trivial
theorem KS1 (hW:W B w0 g h w) (hs:Slots g n tm a.tmps) (hG:GlobOk G g.S) {x:Operand} {b:Bool} {ty:TypeId}:qw0 P B w0 g ((zd0 (Instr.next (a.eval x) b ty)).run P w) (jr0 G tm h x b):=by
 unfold jr0
 cases b with
 | false =>
  simp only [cond_false]
  split
  ·rename_i r hr
   split
   ·rename_i left cur ho
    obtain ⟨h1,h2⟩:=KR1 (P:=P) (ty:=ty) hW (qD0 hs hG hr) ho
    cases left with
    | nil=>exact zz0 (h1 rfl)
    | cons p rest =>
     cases rest with
     | nil =>
      obtain ⟨k,q,hk,hv⟩:=h2 (by simp)
      cases k with
      | zero=>cases hk;exact zz0 hv
      | succ k=>simp at hk
     | cons _ _=>trivial
   ·trivial
  ·trivial
 | true =>
  simp only [cond_true]
  split
  ·rename_i r hr
   split
   ·rename_i s pos ho
    obtain ⟨h1,h2⟩:=KT1 (P:=P) (ty:=ty) hW (qD0 hs hG hr) ho
    cases hb:Nat.blt pos (List.len s) with
    | true=>exact zz0 (h1 hb)
    | false=>exact zz0 (h2 hb)
   ·trivial
  ·trivial
theorem GC1 (hW:W B w0 g h w) (hs:Slots g n tm a.tmps) (hG:GlobOk G g.S) {x:Operand}:qw0 P B w0 g ((zd0 (Instr.panic (a.eval x))).run P w) (Ya0 G tm h x):=by
 unfold Ya0
 split
 ·rename_i t y hx
  have hR:=qD0 hs hG hx
  obtain ⟨v,e,hv⟩:=hR.iface_inv
  rw [e] at hR ⊢
  exact ⟨_,w,g,by simp [zd0,Instr.panic,goPanic],Grown.refl _ _,hW,hR⟩
 ·trivial
theorem KU1 (hW:W B w0 g h w) (hs:Slots g n tm a.tmps) (hG:GlobOk G g.S) {x:Operand} (r:Result Next) (hr:∀ v y,R g (a.eval x) v→QV0 v=some y→r=.ok (.value (a.eval x)) w∧R g (a.eval x) y):qw0 P B w0 g r (o1 G tm h x QV0):=by
 unfold o1
 cases he:ev G tm x with
 | none=>trivial
 | some v =>
  show qw0 P B w0 g _ (qj0 h (QV0 v))
  cases hn:QV0 v with
  | none=>trivial
  | some y =>
   obtain ⟨h1,h2⟩:=hr v y (qD0 hs hG he) hn
   exact ⟨_,w,g,h1,Grown.refl _ _,hW,h2⟩
theorem KC1 (P:Program) (h:Heap) (t:TypeId) (m k x:V):ZS0 P h t m k x=.stuck∨∃ h',ZS0 P h t m k x=.skip h':=by
 unfold ZS0
 split
 ·exact .inl rfl
 ·split
  ·split
   ·have bf:∀ (b:Bool) (r:Rs),(r=.stuck∨∃ h',r=.skip h')→(bif b then r else .stuck)=.stuck∨∃ h',(bif b then r else .stuck)=.skip h':=fun b r hr=>by
     cases b with
     | true=>exact hr
     | false=>exact .inl rfl
    apply bf
    split
    ·exact .inr ⟨_,rfl⟩
    ·exact .inl rfl
   ·exact .inl rfl
  ·exact .inl rfl
theorem jk1 (hW:W B w0 g h w) (hs:Slots g n tm a.tmps) (hG:GlobOk G g.S) {t:TypeId} {x y z:Operand}:qw0 P B w0 g ((do Instr.mapUpdate t (a.eval x) (a.eval y) (a.eval z);pure .skip:Sem Next).run P w) (yW0 P G tm h t x y z):=by
 unfold yW0
 split
 ·rename_i m hm
  split
  ·rename_i k hk
   split
   ·rename_i v hv
    rcases KC1 P h t m k v with e | ⟨h',e⟩
    ·rw [e];trivial
    ·rw [e]
     obtain ⟨w',h1,h2⟩:=KD1 (P:=P) hW (qD0 hs hG hm) (qD0 hs hG hk) (qD0 hs hG hv) e
     exact ⟨w',g,by simp [h1],Grown.refl _ _,h2⟩
   ·trivial
  ·trivial
 ·trivial
theorem Ks1 (hW:W B w0 g h w) (hs:Slots g n tm a.tmps) (hG:GlobOk G g.S) {t:TypeId} {x y:Operand}:qw0 P B w0 g ((zd0 (Instr.makeSlice t (a.eval x) (a.eval y))).run P w) (ZZ0 P G tm h t x y):=by
 unfold ZZ0
 split
 ·trivial
 ·rename_i e he
  split
  ·trivial
  ·rename_i z hz
   split
   ·rename_i kl l hl
    split
    ·rename_i kc c hc
     cases hb:(Nat.ble l c&&Nat.ble (Nat.mul c (Nat.add (P.bytesOf e) 1)) 16777216&&!(Nat.beq (size P e) 0)&&Nat.beq (List.len z.cells) (size P e)&&z.flat) with
     | false=>trivial
     | true =>
      simp only [Bool.and_eq_true,Bool.not_eq_true',Nat.ble_eq,Nat.beq_eq,List.len_eq] at hb
      obtain ⟨⟨⟨⟨h1,h2⟩,h3⟩,h4⟩,h5⟩:=hb
      exact zz0 (Kt1 hW he hz (qD0 hs hG hl) (qD0 hs hG hc) h1 h2 (fun q=>by rw [q] at h3;cases h3) h4 h5)
    ·trivial
   ·trivial
theorem Xx0 {o:Oper} {c:Call} (ho:o.op=.defer c):qC0 P G tm h o=yc0 G tm h c:=by
 unfold qC0;rw [ho];rfl
theorem jw1 (G:Nat→Option V) (tm:T V) (h:Heap) (c:Call):yc0 G tm h c=.stuck∨∃ f args,yc0 G tm h c=.defer f args h:=by
 unfold yc0
 split
 ·exact .inl rfl
 ·split
  ·split
   ·split
    ·exact .inr ⟨_,_,rfl⟩
    ·exact .inl rfl
   ·exact .inl rfl
  ·exact .inl rfl
theorem Yp1 (hW:W B w0 g h w) (hs:Slots g n tm a.tmps) (hG:GlobOk G g.S) {c:Call} {ty:TypeId}:qw0 P B w0 g ((do pure (.defer (← resolve a.eval c ty)):Sem Next).run P w) (yc0 G tm h c):=by
 obtain ⟨callee,args,ats⟩:=c
 unfold yc0
 simp only
 split
 ·trivial
 ·rename_i ys hys
  have hargs:=JC0 hs hG hys
  split
  ·rename_i f
   split
   ·rename_i fn first cap hf
    split
    ·rename_i q
     obtain ⟨c,d,e,h1,h2,h3,h4⟩:=(qD0 hs hG hf).func_inv (fun l=>by simp)
     refine ⟨c++args.map a.eval,d,w,g,?_,Grown.refl _ _,hW,?_⟩
     ·rw [Sem.run_bind,qw2,e]
      simp [Deferred.ofValue]
     ·rw [appL,appL]
      exact (Rs'.append ⟨h1,h3⟩ hargs).append ⟨h2,h4⟩
    ·trivial
   ·trivial
  ·trivial
theorem GK0 (hW:W B w0 g h w) (hs:Slots g n tm a.tmps) (hG:GlobOk G g.S) (o:Oper):qw0 P B w0 g ((execOp a.eval o).run P w) (qC0 P G tm h o):=by
 unfold qC0 execOp
 cases ho:o.op with
 | move x=>exact jp1 hW hs hG
 | assign x=>exact jp1 hW hs hG
 | pick c x y=>exact GH1 hW hs hG
 | alloc e=>exact Xb0 (s:=Instr.alloc e true (.tuple #[])) (fun y h' e'=>Zc1 hW e') (Zb1 P h e)
 | box e x=>exact ZA1 hW hs hG
 | build t ps=>exact ZD1 hW hs hG
 | buildSlice t len ps=>exact ZB1 hW hs hG
 | load t x=>exact jZ0 (s:=Instr.loadAt t) hW hs hG fun v x y hR hy=>ja1 hW hR hy
 | store t x y=>exact zJ2 hW hs hG
 | nilCheck x=>exact KU1 hW hs hG _ fun v y hR hn=>Gc1 hR hn
 | binOp op t x y b=>exact Xa0 (s:=fun v u=>do eqGuard op t x y v u;Go.binOp op t v u) hW hs hG fun v x u y z h1 h2 hz=>Zt1 hW h1 h2 hz
 | unOp op t x=>exact jZ0 (s:=Op.unary op) hW hs hG fun v x y hR hy=>yd2 hR hy
 | convert s d x=>exact jZ0 (s:=Go.convert s d) hW hs hG fun v x y hR hy=>Ye1 hW hR hy
 | makeInterface t x =>
  refine jZ0 (s:=Instr.makeInterface t) hW hs hG fun v x y hR hy=>?_
  obtain ⟨hb,hy⟩:=qf0 hy rfl
  cases hy
  simp only [Bool.and_eq_true] at hb
  exact ⟨_,run_makeInterface w t v (Ga1 hb.2),.iface hR⟩
 | makeFunc f x y=>exact Kq1 hW hs hG
 | makeMap t r=>exact Kr1 hW
 | slice t x lo hi mx=>exact zo2 hW hs hG
 | fieldAddr t x f=>exact JF1 hW hs hG
 | field t x f=>exact JI1 hW hs hG
 | indexAddr t x i=>exact Xa0 (s:=Instr.indexAt t) hW hs hG fun v x u y z h1 h2 hz=>Xs1 hW h1 h2 hz
 | index t x i=>exact Xa0 (s:=Instr.index t) hW hs hG fun v x u y z h1 h2 hz=>Xy1 h1 h2 hz
 | range t x=>exact qo2 hW hs hG
 | next it s=>exact KS1 hW hs hG
 | entry it=>exact YG1 hW hs hG
 | typeAssert x xt t ok=>exact jZ0 (s:=fun v=>Instr.typeAssert v xt t ok) hW hs hG fun v x y hR hy=>yc2 hR hy
 | extract x i=>exact jZ0 (s:=fun v=>Instr.extract v i) hW hs hG fun v x y hR hy=>JD1 hR hy
 | lookup t x i ok=>exact Xa0 (s:=fun v u=>Instr.lookup t v u ok) hW hs hG fun v x u y z h1 h2 hz=>Km1 hW h1 h2 hz
 | mapUpdate t m k x=>exact jk1 hW hs hG
 | insert t m k x=>exact jk1 hW hs hG
 | makeSlice t l c=>exact Ks1 hW hs hG
 | call c=>exact ZU1 hW hs hG
 | defer c=>exact Yp1 hW hs hG
 | panic x=>exact GC1 hW hs hG
 | _=>trivial
end
theorem yk1 {fn : Func} {n : String} (h1 : fn.name = n) (h2 : fn.origin = "") (h3 : Extern.allNextRows.lookup n = none) (h4 : Extern.allNextRows.lookup "" = none) : Extern.findNext fn = none := by
 simp [Extern.findNext,h1,h2,h3,h4]
theorem JS1 {fn:Func} {n:String} {e:Array Value→Sem Value} (h1:fn.name=n) (h3:Extern.allGenericRows.lookup n=none) (h4:Extern.allTypedRows.lookup n=none) (h5:Extern.allRows.lookup n=some e):Extern.find fn=some e:=by
 simp [Extern.find,h1,h3,h4,h5]
theorem js1 : Extern.allNextRows.lookup "" = none := by kernel_rfl
theorem KW1 : Extern.allNextRows.lookup "internal/abi.NoEscape" = none := by kernel_rfl
theorem KV1 : Extern.allGenericRows.lookup "internal/abi.NoEscape" = none := by kernel_rfl
theorem KY1 : Extern.allTypedRows.lookup "internal/abi.NoEscape" = none := by kernel_rfl
theorem KX1 : Extern.allRows.lookup "internal/abi.NoEscape" = some Extern.AbiNoEscape.same := by kernel_rfl
theorem Yi1 : Extern.allNextRows.lookup "internal/bytealg.CountString" = none := by kernel_rfl
theorem Yh1 : Extern.allGenericRows.lookup "internal/bytealg.CountString" = none := by kernel_rfl
theorem Yk1 : Extern.allTypedRows.lookup "internal/bytealg.CountString" = none := by kernel_rfl
theorem Yj1 : Extern.allRows.lookup "internal/bytealg.CountString" = some Extern.BytealgCount.count := by kernel_rfl
theorem Xw1 : Extern.allNextRows.lookup "internal/bytealg.IndexByteString" = none := by kernel_rfl
theorem Xv1 : Extern.allGenericRows.lookup "internal/bytealg.IndexByteString" = none := by kernel_rfl
theorem Xz1 : Extern.allTypedRows.lookup "internal/bytealg.IndexByteString" = none := by kernel_rfl
theorem Xx1 : Extern.allRows.lookup "internal/bytealg.IndexByteString" = some Extern.BytealgIndexByte.indexByte := by kernel_rfl
theorem qh1 {P : Program} {f : FuncId} {fn : Func} {e : Array Value → Sem Value} {n : String} {us : Array Value} {w w' : World} {v : Value} (hf : P.funcs[f]? = some fn) (hb : fn.body = none) (h1 : fn.name = n) (h2 : fn.origin = "") (hne : n ≠ "runtime.NumGoroutine") (h3 : Extern.allNextRows.lookup n = none)
 (h4:Extern.allGenericRows.lookup n=none) (h5:Extern.allTypedRows.lookup n=none) (h6:Extern.allRows.lookup n=some e) (he:(e us).run P w=.ok v w'):(callFunc f us).run P w=.ok (.value v) w':=by
 rw [run_callFunc_extern hf (by rw [h1];simpa using hne) (by rw [hb];rfl) (yk1 h1 h2 h3 js1) (JS1 h1 h4 h5 h6),he]
 rfl
theorem Kv1 : Extern.allNextRows.lookup "internal/bytealg.MakeNoZero" = none := by kernel_rfl
theorem Ku1 : Extern.allGenericRows.lookup "internal/bytealg.MakeNoZero" = none := by kernel_rfl
theorem Kw1 : Extern.allTypedRows.lookup "internal/bytealg.MakeNoZero" = some Extern.BytealgMakeNoZero.makeNoZero := by kernel_rfl
theorem qL2 {P : Program} {f : FuncId} {fn : Func} {e : Array TypeId → Array TypeId → Array Value → Sem Value} {n : String} {us : Array Value} {w w' : World} {v : Value} (hf : P.funcs[f]? = some fn) (hb : fn.body = none) (h1 : fn.name = n) (h2 : fn.origin = "") (hne : n ≠ "runtime.NumGoroutine") (h3 : Extern.allNextRows.lookup n = none)
 (h4:Extern.allGenericRows.lookup n=none) (h5:Extern.allTypedRows.lookup n=some e) (he:(e fn.params fn.resultTypes us).run P w=.ok v w'):(callFunc f us).run P w=.ok (.value v) w':=by
 have hx:Extern.find fn=some (e fn.params fn.resultTypes):=by simp [Extern.find,h1,h4,h5]
 rw [run_callFunc_extern hf (by rw [h1];simpa using hne) (by rw [hb];rfl) (yk1 h1 h2 h3 js1) hx,he]
 rfl
theorem Yg1 (c:UInt8) (l:List UInt8):JJ0 c l=l.countP (fun b=>b == c):=by
 induction l with
 | nil=>rfl
 | cons b l ih =>
  change (bif zE0 b c then Nat.succ (JJ0 c l) else JJ0 c l)=_
  have hb:zE0 b c=(b == c):=by
   rw [Bool.eq_iff_iff,beq_iff_eq]
   unfold zE0
   rw [Nat.beq_eq]
   exact UInt8.toNat_inj
  rw [hb,ih,List.countP_cons]
  cases h:(b == c) <;> rfl
theorem ZI1 (b c:UInt8):zE0 b c=(b == c):=by
 rw [Bool.eq_iff_iff,beq_iff_eq]
 unfold zE0
 rw [Nat.beq_eq]
 exact UInt8.toNat_inj
theorem JQ1 (c:UInt8) (l:List UInt8):∀ i:Nat,KT0 c l i=if Lib.indexByte l c == -1 then -1 else Lib.indexByte l c+i:=by
 induction l with
 | nil=>intro i;rfl
 | cons b l ih =>
  intro i
  change (bif zE0 b c then Int.ofNat i else KT0 c l (i+1))=_
  rw [ZI1,ih]
  have hge:=Lib.indexByte_ge l c
  have hu:Lib.indexByte (b::l) c=if b == c then 0 else if Lib.indexByte l c == -1 then -1 else Lib.indexByte l c+1:=rfl
  rw [hu]
  cases h:(b == c) with
  | true=>simp
  | false =>
   simp only [cond_false,Bool.false_eq_true,if_false]
   by_cases h1:Lib.indexByte l c=-1
   ·simp [h1]
   ·have h2:(Lib.indexByte l c == -1)=false:=by simpa using h1
    rw [h2]
    simp only [Bool.false_eq_true,if_false]
    have h3:(Lib.indexByte l c+1 == -1)=false:=by simp;omega
    rw [h3]
    simp only [Bool.false_eq_true,if_false]
    omega
theorem JC1 {P:Program} {B:Ns} {w0:World} {g:Gh} {h:Heap} {w:World} {f:FuncId} {fn:Func} {args:List V} {us:Array Value} {y:V} {h':Heap} (hW:W B w0 g h w) (hs:Rs' g us args) (hf:P.funcs[f]?=some fn) (hb:fn.body=none) (he:YE0 P fn args h=some (y,h')) :
 ∃ g' w' v,Grown B g g'∧W B w0 g' h' w'∧R g' v y∧(callFunc f us).run P w=.ok (.value v) w':=by
 unfold YE0 at he
 split at he
 ·cases he
 ·rename_i ho
  have ho : fn.origin = "" := by simpa using ho
  split at he
  ·rename_i hn
   unfold xSame at he
   split at he
   ·rename_i v
    cases he
    obtain ⟨u,hu⟩:=zy0 us 0 (by rw [hs.1];simp)
    have e:us=#[u]:=by
     have hl:us.size=1:=by rw [hs.1];rfl
     apply Array.ext (by simp [hl])
     intro i hi _
     have:i=0:=by omega
     subst this
     rw [Array.getElem?_eq_getElem (by omega)] at hu
     simpa using hu
    refine ⟨g,w,u,Grown.refl _ _,hW,hs.2 0 u _ hu rfl,?_⟩
    rw [e]
    exact qh1 hf hb hn ho (by decide) KW1 KV1 KY1 KX1 rfl
   ·cases he
  ·have two:∀ s c,args=[.str s,.int .u8 c]→∃ b:ByteArray,us=#[.string b,.int .u8 c]∧b.data.toList=s:=fun s c ea=>by
    subst ea
    have hl:us.size=2:=hs.1
    obtain ⟨u0,h0⟩:=zy0 us 0 (by omega)
    obtain ⟨u1,h1⟩:=zy0 us 1 (by omega)
    obtain ⟨b,rfl,hb'⟩:=(hs.2 0 u0 _ h0 rfl).str_inv
    have:=(hs.2 1 u1 _ h1 rfl).int_inv;subst this
    refine ⟨b,?_,hb'⟩
    apply Array.ext (by simp [hl])
    intro i hi _
    rw [Array.getElem?_eq_getElem (by omega)] at h0 h1
    match i,hi with
    | 0,_=>simpa using h0
    | 1,_=>simpa using h1
    | n+2,hi=>omega
   split at he
   ·rename_i hn
    unfold QN1 at he
    split at he
    ·rename_i s c
     cases he
     obtain ⟨b,rfl,rfl⟩:=two s c rfl
     refine ⟨g,w,_,Grown.refl _ _,hW,?_,qh1 hf hb hn ho (by decide) Yi1 Yh1 Yk1 Yj1 (Lib.run_countString b c w)⟩
     rw [Yg1]
     exact .gnd (.int _ _)
    ·cases he
   ·split at he
    ·rename_i hn
     unfold QO1 at he
     split at he
     ·rename_i s c
      cases he
      obtain ⟨b,rfl,rfl⟩:=two s c rfl
      refine ⟨g,w,_,Grown.refl _ _,hW,?_,qh1 hf hb hn ho (by decide) Xw1 Xv1 Xz1 Xx1 (Lib.run_indexByteString b c w)⟩
      rw [JQ1]
      have:(if Lib.indexByte b.data.toList (UInt8.ofNat c.toNat) == -1 then -1 else Lib.indexByte b.data.toList (UInt8.ofNat c.toNat)+((0:Nat):Int))=Lib.indexByte b.data.toList c.toNat.toUInt8:=by
       split
       ·rename_i q;exact (by simpa using q:_=_).symm
       ·simp
      rw [this]
      exact .gnd (.int _ _)
     ·cases he
    ·split at he
     ·rename_i hn
      unfold xMake at he
      split at he
      ·rename_i n
       split at he
       ·rename_i t hrt
        split at he
        ·rename_i e hse
         obtain ⟨hc,he⟩:=qf0 he rfl
         cases he
         simp only [Bool.and_eq_true,Nat.ble_eq,Nat.beq_eq] at hc
         obtain ⟨hn1,hn2⟩:=hc
         have hus:us=#[.int .i64 (n:Int)]:=by
          have hl:us.size=1:=hs.1
          obtain ⟨u0,h0⟩:=zy0 us 0 (by omega)
          have:=(hs.2 0 u0 _ h0 rfl).int_inv;subst this
          apply Array.ext (by simp [hl])
          intro i hi _
          rw [Array.getElem?_eq_getElem (by omega)] at h0
          have:i=0:=by omega
          subst this
          simpa using h0
         have hrt':fn.resultTypes=#[t]:=by
          have:fn.resultTypes=fn.resultTypes.toList.toArray:=by simp
          rw [this,hrt]
         obtain ⟨cs,hrun,hle,_⟩:=Lib.run_makeNoZero (P:=P) w fn.params t e (zI0 hse) n (by omega)
         have hW2:W B w0 g h w.drew.drew:=(hW.drew (w.drawn+1)).drew (w.drawn+1+1)
         refine ⟨g.new h.n (w.heap.size,cs.size,1) (some 0),_,_,Grown.new hW _ _,W.newRow hW2 (C:=cs) (K:=cs.size) (sz:=1) (ty:=e) (cap:=none) (es:=[]) (by simp) Nat.one_pos (Nat.zero_le _) (fun c e=>by cases e) (fun i e q=>by simp at q) (fun i e j x q=>by simp at q),R.newSl hle,?_⟩
         rw [hus]
         refine qL2 hf hb hn ho (by decide) Kv1 Ku1 Kw1 ?_
         rw [hrt',hrun]
         rfl
        ·cases he
       ·cases he
      ·cases he
     ·cases he
def said (S:Nat→Nat→Option Value) (b lo hi:Nat) (C:Array Value):Nat→Nat→Option Value:=fun b' i=>if b'=b∧lo≤i∧i<hi then Zo0 C i else S b' i
theorem W.say {B:Ns} {w0:World} {g:Gh} {h:Heap} {w:World} (hW:W B w0 g h w) {r ver ty sz pub:Nat} {cap:Option Nat} {es:List V} {b k:Nat} {C:Array Value} {fr:Nat×Nat} (hr:h.get r=.row ver ty sz pub cap es) (hm:g.mu r=some (b,k,sz)) (hrow:RowOk g w b k sz ty pub cap es C fr) {o n:Nat} (hn:o+n≤es.length) :
 Grown B g (g.say (said g.S b (o*sz) ((o+n)*sz) C))∧W B w0 (g.say (said g.S b (o*sz) ((o+n)*sz) C)) (h.set r (.row ver ty sz (Nat.max pub (o+n)) cap es)) w:=by
 have hB:=hW.high r _ hm
 have hext:∀ b' i v,g.S b' i=some v→said g.S b (o*sz) ((o+n)*sz) C b' i=some v:=by
  intro b' i v hv
  unfold said
  split
  ·rename_i hc
   obtain ⟨rfl,_⟩:=hc
   obtain ⟨h1,h2⟩:=YP0 hrow.at_ (hW.shut _ _ _ hv)
   exact Zp0 h1 h2
  ·exact hv
 have hx:=Ext.say hext
 have hoth:∀ b',b'≠b→∀ i v,said g.S b (o*sz) ((o+n)*sz) C b' i=some v→g.S b' i=some v:=by
  intro b' hb i v hv
  unfold said at hv
  rw [if_neg (fun q=>hb q.1)] at hv;exact hv
 refine ⟨⟨hx,fun b' i v hb hv=>hoth b' (fun q=>hB.1 (q ▸ hb)) i v hv⟩,?_⟩
 have hrow':RowOk (g.say (said g.S b (o*sz) ((o+n)*sz) C)) w b k sz ty (Nat.max pub (o+n)) cap es C fr:=by
  have h1:pub*sz≤Nat.max pub (o+n)*sz:=Nat.mul_le_mul_right _ (Nat.le_max_left _ _)
  have h2:(o+n)*sz≤Nat.max pub (o+n)*sz:=Nat.mul_le_mul_right _ (Nat.le_max_right _ _)
  refine ⟨hrow.at_,hrow.csize,hrow.pos,hrow.fits,Nat.max_le.2 ⟨hrow.pubs,hn⟩,hrow.caps,hrow.elems,fun i e j y he hy=>(match hrow.cells i e j y he hy with | ⟨v,a,q,c⟩=>⟨v,a,q,c.mono hx⟩),fun i v hv=>?_,?_⟩
  ·change said g.S b (o*sz) ((o+n)*sz) C b i=some v at hv
   unfold said at hv
   split at hv
   ·rename_i hc;omega
   ·have:=hrow.shut i v hv;omega
  ·rcases hrow.ice with h | ⟨h,h'⟩
   ·exact .inl h
   ·exact .inr ⟨h,by omega⟩
 refine hW.turn r (b,k,sz) ⟨rfl,rfl,rfl,Nat.le_refl _,fun _ _=>rfl⟩ hx (.inl ⟨Heap.n_set _ _ _,hW.live hm⟩) (fun _ _=>rfl) (fun q hq=>by rw [Heap.get_set,if_neg (fun e=>hq e.symm)]) (fun _ _=>rfl) hm
  (by rw [Heap.get_set,if_pos rfl];show g.vr r=_;rw [hW.ver',hr];rfl) (fun q x hq hx'=>?_) (by rw [Heap.get_set,if_pos rfl];exact ⟨rfl,C,fr,hrow'⟩) hB ?_
 ·have hne:x.1≠b:=fun e=>hq (hW.inj q r x _ hx' hm e)
  exact ⟨hne,rfl,fun i v=>hoth x.1 hne i v⟩
 ·intro b' i v hv
  unfold Gh.say said at hv
  simp only at hv
  split at hv
  ·rename_i hc
   obtain ⟨rfl,_⟩:=hc
   exact ZO0 hrow.at_ (jM0 hv).1 (jM0 hv).2
  ·exact hW.shut _ _ _ hv
structure Kept (seen:List Nat) (g:Gh) (S:Nat→Nat→Option Value) (h h':Heap):Prop where
 n:h'.n=h.n
 row:∀ r,r∈seen→h'.get r=h.get r
 shut:∀ r,r∈seen→∀ y,g.mu r=some y→∀ o v,S y.1 o=some v→g.S y.1 o=some v
 same:∀ r ver ty sz pub cap es,h.get r=.row ver ty sz pub cap es→∃ pub',h'.get r=.row ver ty sz pub' cap es
 mp:∀ r es,h.get r=.map es→h'.get r=.map es∨h'.get r=.dead
 dead:∀ r,h.get r=.dead→h'.get r=.dead
theorem Kept.refl (seen:List Nat) (g:Gh) (h:Heap):Kept seen g g.S h h:=⟨rfl,fun _ _=>rfl,fun _ _ _ _ _ _ e=>e,fun _ _ _ _ pub _ _ e=>⟨pub,e⟩,fun _ _ e=>.inl e,fun _ e=>e⟩
theorem Kept.trans {seen:List Nat} {g:Gh} {S S':Nat→Nat→Option Value} {h h' h'':Heap} (a:Kept seen g S h h') (b:Kept seen (g.say S) S' h' h''):Kept seen g S' h h'' :=
 ⟨b.n.trans a.n,fun r hr=>(b.row r hr).trans (a.row r hr),fun r hr y hy o v e=>a.shut r hr y hy o v (b.shut r hr y hy o v e),fun r ver ty sz pub cap es e=>by
  obtain ⟨p,e'⟩:=a.same r ver ty sz pub cap es e
  exact b.same r ver ty sz p cap es e',fun r es e=>(a.mp r es e).elim (fun q=>b.mp r es q) (fun q=>.inr (b.dead r q)),fun r e=>b.dead r (a.dead r e)⟩
def Shape (x x':V):Prop:=x'.flat=x.flat∧x'.cells.length=x.cells.length∧((∀ vs,x≠.agg vs)→∀ vs,x'≠.agg vs)
structure PubOk (seen:List Nat) (B:Ns) (w0:World) (g:Gh) (h h':Heap) (w:World) (S:Nat→Nat→Option Value):Prop where
 grown:Grown B g (g.say S)
 world:W B w0 (g.say S) h' w
 kept:Kept seen g S h h'
theorem PubOk.refl {seen:List Nat} {B:Ns} {w0:World} {g:Gh} {h:Heap} {w:World} (hW:W B w0 g h w):PubOk seen B w0 g h h w g.S:=⟨Grown.refl _ _,hW,Kept.refl _ _ _⟩
theorem PubOk.trans {seen:List Nat} {B:Ns} {w0:World} {g:Gh} {h h' h'':Heap} {w:World} {S S':Nat→Nat→Option Value} (a:PubOk seen B w0 g h h' w S) (b:PubOk seen B w0 (g.say S) h' h'' w S'):PubOk seen B w0 g h h'' w S' :=
 ⟨a.grown.trans b.grown,b.world,a.kept.trans b.kept⟩
def PubF (seen:List Nat) (f:Heap→V→Option (V×Heap)):Prop:=∀ {B:Ns} {w0:World} {g:Gh} {h:Heap} {w:World} {v:Value} {x x':V} {h':Heap},W B w0 g h w→R g v x→f h x=some (x',h') →
 ∃ S,PubOk seen B w0 g h h' w S∧GR S v x'∧Shape x x'
theorem GZ1 (f:Heap→V→Option (V×Heap)) (h:Heap):qy0 f [] h=some ([],h):=rfl
theorem GY1 (f:Heap→V→Option (V×Heap)) (v:V) (l:List V) (h:Heap):qy0 f (v::l) h=match f h v with
 | none=>none
 | some (v',h1)=>match qy0 f l h1 with
  | none=>none
  | some (l',h2)=>some (v'::l',h2):=rfl
theorem jc0 {seen:List Nat} {f:Heap→V→Option (V×Heap)} (hf:PubF seen f) (l:List V):∀ {B:Ns} {w0:World} {g:Gh} {h:Heap} {w:World} {vs:List Value} {l':List V} {h':Heap},W B w0 g h w→vs.length=l.length →
 (∀ (i:Nat) v x,vs[i]?=some v→l[i]?=some x→R g v x)→qy0 f l h=some (l',h') →
 ∃ S,PubOk seen B w0 g h h' w S∧l'.length=l.length∧(∀ (i:Nat) v x,vs[i]?=some v→l'[i]?=some x→GR S v x)∧∀ (i:Nat) x x',l[i]?=some x→l'[i]?=some x'→Shape x x':=by
 induction l with
 | nil =>
  intro B w0 g h w vs l' h' hW hn hR hp
  rw [GZ1] at hp;cases hp
  exact ⟨g.S,.refl hW,rfl,fun i v x _ hx=>by simp at hx,fun i x x' hx=>by simp at hx⟩
 | cons a l ih =>
  intro B w0 g h w vs l' h' hW hn hR hp
  rw [GY1] at hp
  cases vs with
  | nil=>simp at hn
  | cons u us =>
   split at hp
   ·cases hp
   ·rename_i a' h1 ha
    split at hp
    ·cases hp
    ·rename_i l1 h2 hl
     cases hp
     obtain ⟨S1,k1,g1,s1⟩:=hf hW (hR 0 u a rfl rfl) ha
     obtain ⟨S2,k2,n2,g2,s2⟩:=ih (vs:=us) k1.world (by simpa using hn) (fun i v x p q=>(hR (i+1) v x (by simpa using p) (by simpa using q)).mono k1.grown.ext) hl
     refine ⟨S2,k1.trans k2,by simp [n2],fun i v x p q=>?_,fun i x x' p q=>?_⟩
     ·cases i with
      | zero=>simp at p q;subst p;subst q;exact g1.mono k2.grown.ext.S
      | succ i=>exact g2 i v x (by simpa using p) (by simpa using q)
     ·cases i with
      | zero=>simp at p q;subst p;subst q;exact s1
      | succ i=>exact s2 i x x' (by simpa using p) (by simpa using q)
def jP0 (C:Array Value) (base:Nat):V→Value
 | .agg vs=>.agg ((List.range vs.length).map fun j=>C.getD (base+j) Go.undef).toArray
 | _=>C.getD base Go.undef
theorem Kz0 {e:V} (h:∀ vs,e≠.agg vs):e.cells=[e]:=by
 cases e <;> first | rfl | exact absurd rfl (h _)
theorem zo1 (C:Array Value) (base:Nat) {e:V} (h:∀ vs,e≠.agg vs):jP0 C base e=C.getD base Go.undef:=by
 cases e <;> first | rfl | exact absurd rfl (h _)
theorem yN0 {C:Array Value} {i:Nat} {v:Value} (h:C[i]?=some v):C.getD i Go.undef=v:=by simp [Array.getD_eq_getD_getElem?,h]
theorem zn1 {g:Gh} {C:Array Value} {base:Nat} {e:V} (h:∀ (j:Nat) x,e.cells[j]?=some x→∃ v,C[base+j]?=some v∧v.oneCell'=true∧R g v x):R g (jP0 C base e) e:=by
 by_cases ha:∃ vs,e=.agg vs
 ·obtain ⟨vs,rfl⟩:=ha
  have key:∀ (i:Nat) v,((List.range vs.length).map fun j=>C.getD (base+j) Go.undef).toArray[i]?=some v→∃ x,vs[i]?=some x∧v.oneCell'=true∧R g v x:=by
   intro i v hv
   simp only [List.getElem?_toArray,List.getElem?_map] at hv
   by_cases hi:i<vs.length
   ·rw [List.getElem?_range hi] at hv
    simp at hv;subst hv
    obtain ⟨x,hx⟩:=qr0 vs i hi
    obtain ⟨v,p,q,r⟩:=h i x hx
    have:=yN0 p
    simp only [Array.getD_eq_getD_getElem?] at this
    rw [this];exact ⟨x,hx,q,r⟩
   ·rw [List.getElem?_eq_none (by simp;omega)] at hv;simp at hv
  refine .agg (by simp) (fun i v hv=>?_) (fun i v x hv hx=>?_)
  ·obtain ⟨_,_,q,_⟩:=key i v hv;exact q
  ·obtain ⟨x',hx',_,r⟩:=key i v hv
   rw [hx] at hx';cases hx';exact r
 ·have hs:∀ vs,e≠.agg vs:=fun vs he=>ha ⟨vs,he⟩
  rw [zo1 C base hs]
  obtain ⟨v,p,_,r⟩:=h 0 e (by rw [Kz0 hs];rfl)
  have p:C[base]?=some v:=p
  rw [yN0 p];exact r
theorem KG0 {S:Nat→Nat→Option Value} {C:Array Value} {base:Nat} {e e':V} (hsh:Shape e e') (h:GR S (jP0 C base e) e') (j:Nat) (x:V) (hx:e'.cells[j]?=some x):GR S (C.getD (base+j) Go.undef) x:=by
 by_cases ha:∃ vs,e=.agg vs
 ·obtain ⟨vs,rfl⟩:=ha
  simp only [jP0] at h
  cases h with
  | oslS h=>cases h
  | agg hn h1 h =>
   rename_i vs'
   have hj:=qd0 hx
   simp only [V.cells] at hx hj
   simp at hn
   refine h j _ x ?_ hx
   simp only [List.getElem?_toArray,List.getElem?_map]
   rw [List.getElem?_range (by omega)];rfl
 ·have hs:∀ vs,e≠.agg vs:=fun vs he=>ha ⟨vs,he⟩
  rw [zo1 C base hs] at h
  rw [Kz0 (hsh.2.2 hs)] at hx
  cases j with
  | zero=>cases hx;exact h
  | succ j=>simp at hx
theorem jP1 {seen:List Nat} {f:Heap→V→Option (V×Heap)} (hf:PubF seen f) {B:Ns} {w0:World} {g:Gh} {h:Heap} {w:World} {v:Value} {r ver o n:Nat} {c:Option Nat} {x':V} {h':Heap} (hW:W B w0 g h w) (hR:R g v (.sl r ver o n c)) (hp:jt0 f seen h r ver o n c=some (x',h')) :
 ∃ S,PubOk seen B w0 g h h' w S∧GR S v x'∧Shape (.sl r ver o n c) x':=by
 unfold jt0 at hp
 split at hp
 ·rename_i ver' ty sz pub0 cap es hr
  obtain ⟨hb,hp1⟩:=qf0 hp rfl
  clear hp
  simp only [Bool.and_eq_true,Bool.not_eq_true',Nat.beq_eq,Nat.ble_eq,List.len_eq] at hb
  obtain ⟨⟨rfl,hseen⟩,hle⟩:=hb
  have hle:o+n≤es.length:=hle
  split at hp1
  ·rename_i es' h1 hes
   split at hp1
   ·rename_i v2 t2 s2 pb2 c2 e2 hr2
    obtain ⟨hb2,hp2⟩:=qf0 hp1 rfl
    cases hp2
    obtain ⟨hv,b,k,C,fr,hm,hrow,hlt⟩:=hW.row hr
    rw [List.takeN_eq,List.dropN_eq] at hes
    have hel:∀ (i:Nat) e,((es.drop o).take n)[i]?=some e→i<n∧es[o+i]?=some e:=by
     intro i e he
     rw [List.getElem?_take] at he
     split at he
     ·rw [List.getElem?_drop] at he;exact ⟨by assumption,he⟩
     ·cases he
    have hlen:((es.drop o).take n).length=n:=by simp;omega
    obtain ⟨S1,k1,n1,g1,s1⟩:=jc0 hf ((es.drop o).take n) (vs:=(List.range n).map fun i=>jP0 C ((o+i)*sz) (es.getD (o+i) undef)) hW (by rw [hlen];simp) (fun i u e hu he=>by
     obtain ⟨hi,he⟩:=hel i e he
     simp only [List.getElem?_map] at hu
     rw [List.getElem?_range hi] at hu
     simp only [Option.map_some,Option.some.injEq] at hu
     subst hu
     have:es.getD (o+i) undef=e:=by simp [List.getD_eq_getElem?_getD,he]
     rw [this]
     exact zn1 fun j x hx=>hrow.cells _ _ _ _ he hx) hes
    obtain ⟨pb',hr2'⟩:=k1.kept.same _ _ _ _ _ _ _ hr
    rw [hr2] at hr2'
    cases hr2'
    have hm1:(g.say S1).mu r=some (b,k,sz):=hm
    obtain ⟨_,b1,k1',C1,fr1,hm1',hrow1,_⟩:=k1.world.row hr2
    rw [hm1] at hm1';cases hm1'
    have hC:C1=C:=by
     have:=hrow1.at_
     rw [hrow.at_] at this;cases this;rfl
    subst hC
    obtain ⟨hg2,hW2⟩:=k1.world.say hr2 hm1 hrow1 (o:=o) (n:=n) hle
    have hns:r∉seen:=fun e=>by rw [(YR0 r seen).2 e] at hseen;cases hseen
    have hrs:∀ q,q∈seen→¬ r=q:=fun q hq e=>hns (e ▸ hq)
    refine ⟨said S1 b (o*sz) ((o+n)*sz) C1,k1.trans ⟨hg2,hW2,?_⟩,?_,?_⟩
    ·refine ⟨Heap.n_set _ _ _,fun q hq=>by rw [Heap.get_set,if_neg (hrs q hq)],fun q hq y hy i u hu=>?_,fun q ver ty sz pub cap es e=>?_,fun q es e=>?_,fun q e=>?_⟩
     ·unfold said at hu
      split at hu
      ·rename_i hc
       have hy':g.mu q=some y:=hy
       exact absurd (hW.inj r q _ _ hm hy' hc.1.symm) (hrs q hq)
      ·exact hu
     ·rw [Heap.get_set]
      split
      ·rename_i e';subst e';rw [hr2] at e;cases e;exact ⟨_,rfl⟩
      ·exact ⟨_,e⟩
     ·rw [Heap.get_set]
      split
      ·rename_i e';subst e';rw [hr2] at e;cases e
      ·exact .inl e
     ·rw [Heap.get_set]
      split
      ·rename_i e';subst e';rw [hr2] at e;cases e
      ·exact e
    ·obtain ⟨a,cp,vr',rfl,hv',hle',hn,hc,hpt⟩:=hR.sl_inv
     rw [hv] at hv';cases hv'
     obtain ⟨k2,sz2,hm2,ho,hs,hk,hck⟩:=hpt rfl
     rw [hm] at hm2
     simp only [Option.some.injEq,Prod.mk.injEq] at hm2
     obtain ⟨hb',rfl,rfl⟩:=hm2
     have hnl:es'.length=n:=by rw [n1,hlen]
     have hel':∀ (i:Nat) e',es'[i]?=some e'→∃ e,i<n∧es[o+i]?=some e∧Shape e e'∧GR S1 (jP0 C1 ((o+i)*sz) e) e':=by
      intro i e' he'
      have hi:i<n:=by rw [← hnl];exact qd0 he'
      obtain ⟨e,he⟩:=qr0 ((es.drop o).take n) i (by omega)
      obtain ⟨_,he2⟩:=hel i e he
      refine ⟨e,hi,he2,s1 i e e' he he',?_⟩
      refine g1 i _ e' ?_ he'
      simp only [List.getElem?_map]
      rw [List.getElem?_range hi]
      simp [List.getD_eq_getElem?_getD,he2]
     have hext:=hg2.ext.S
     have hoff:0<n→a.off=o*sz:=fun h=>ho (by omega)
     have hmul:∀ i,(o+i)*sz=o*sz+i*sz:=fun i=>Nat.add_mul o i sz
     rw [Addr.eta hs,← hb']
     subst hnl
     refine .gsl (fun i j=>C1.getD ((o+i)*sz+j) Go.undef) hrow.pos (fun i e' he'=>?_) (fun i e' j x he' hx=>?_) (fun c' e=>?_) (by omega) (fun i e' j x he' hx=>?_)
     ·obtain ⟨e,hi,he,hsh,_⟩:=hel' i e' he'
      rw [hsh.1,hsh.2.1];exact hrow.elems _ _ he
     ·obtain ⟨e,hi,he,hsh,_⟩:=hel' i e' he'
      have hj:j<sz:=by rw [← (hrow.elems _ _ he).1,← hsh.2.1];exact qd0 hx
      obtain ⟨y,hy⟩:=qr0 e.cells j (by rw [← hsh.2.1];exact qd0 hx)
      obtain ⟨u,p,q,_⟩:=hrow.cells _ _ _ _ he hy
      rw [hoff (by omega)]
      have hlo:o*sz+i*sz+j<(o+es'.length)*sz:=by
       have:(i+1)*sz≤es'.length*sz:=Nat.mul_le_mul_right _ hi
       rw [Nat.add_mul] at this
       rw [Nat.add_mul];omega
      rw [yN0 p]
      refine ⟨?_,q⟩
      unfold said
      rw [if_pos ⟨rfl,by omega,hlo⟩,← hmul];exact Zp0 p q
     ·cases c with
      | some c=>cases e;exact hc _ rfl
      | none =>
       have hk':=hck rfl
       cases cap with
       | none=>cases e
       | some kk =>
        cases e
        have:=hrow.caps _ rfl
        change cp=kk-o
        omega
     ·obtain ⟨e,hi,he,hsh,hgr⟩:=hel' i e' he'
      exact (KG0 hsh hgr j x hx).mono hext
    ·exact ⟨rfl,rfl,fun _ vs e=>by cases e⟩
   ·cases hp1
  ·cases hp1
 ·cases hp
theorem Shape.refl (x:V):Shape x x:=⟨rfl,rfl,fun h=>h⟩
theorem qg2 (seen:List Nat) (k:Nat) (h:Heap) (v:V):pub seen (k+1) h v=match v with
 | .int a b=>some (.int a b,h)
 | .bool b=>some (.bool b,h)
 | .str s=>some (.str s,h)
 | .nilp=>some (.nilp,h)
 | .nils=>some (.nils,h)
 | .nilm=>some (.nilm,h)
 | .nilf=>some (.nilf,h)
 | .nili=>some (.nili,h)
 | .gsl a b c=>some (.gsl a b c,h)
 | .osl a b=>some (.osl a b,h)
 | .gptr a b c=>some (.gptr a b c,h)
 | .func f a b=>match f with
  | .func _=>Ja0 f (qy0 (pub seen k) b) (qy0 (pub seen k) a h)
  | _=>none
 | .agg vs=>jb0 .agg (qy0 (pub seen k) vs h)
 | .tup vs=>jb0 .tup (qy0 (pub seen k) vs h)
 | .iface t x=>match pub seen k h x with
  | some (x',h')=>some (.iface t x',h')
  | none=>none
 | .sl r ver o n c=>jt0 (pub seen k) seen h r ver o n c
 | .ptr r ver off=>XH0 (pub seen k) seen h r ver off
 | .gmap a b=>some (.gmap a b,h)
 | .map r=>XG0 (pub seen k) seen h r
 | _=>none:=rfl
theorem jM1 {w:List V→V} {o:Option (List V×Heap)} {x:V} {h:Heap} (e:jb0 w o=some (x,h)):∃ l,o=some (l,h)∧x=w l:=by
 cases o with
 | none=>cases e
 | some p=>obtain ⟨l,h'⟩:=p;cases e;exact ⟨l,rfl,rfl⟩
theorem GW1 {f:Fn} {k:Heap→Option (List V×Heap)} {o:Option (List V×Heap)} {x:V} {h:Heap} (e:Ja0 f k o=some (x,h)):∃ a h1 b,o=some (a,h1)∧k h1=some (b,h)∧x=.func f a b:=by
 cases o with
 | none=>cases e
 | some p =>
  obtain ⟨a,h1⟩:=p
  simp only [Ja0] at e
  split at e
  ·rename_i b h2 e2
   cases e
   exact ⟨a,h1,b,rfl,e2,rfl⟩
  ·cases e
theorem qb2 {seen:List Nat} {f:Heap→V→Option (V×Heap)} (hf:PubF seen f) {B:Ns} {w0:World} {g:Gh} {h:Heap} {w:World} {v:Value} {r ver off:Nat} {x':V} {h':Heap} (hW:W B w0 g h w) (hR:R g v (.ptr r ver off)) (hp:XH0 f seen h r ver off=some (x',h')) :
 ∃ S,PubOk seen B w0 g h h' w S∧GR S v x'∧Shape (.ptr r ver off) x':=by
 unfold XH0 at hp
 split at hp
 ·rename_i x h1 hs
  split at hp
  ·rename_i sz es c
   cases hp
   cases hr:h.get r with
   | row ver' ty sz' pb cap es' =>
    have hl:qd1 h r=es'.length:=by unfold qd1;rw [hr];exact List.len_eq _
    rw [hl] at hs
    obtain ⟨hv,b,k,C,fr,hm,hrow,hlt⟩:=hW.row hr
    obtain ⟨a,vr',rfl,hv',hle',hpt⟩:=hR.ptr_inv
    rw [hv] at hv';cases hv'
    have hver:ver=ver':=by
     unfold jt0 at hs
     rw [hr] at hs
     obtain ⟨hb,_⟩:=qf0 hs rfl
     simp only [Bool.and_eq_true,Nat.beq_eq] at hb
     exact hb.1.1
    obtain ⟨k2,sz2,hm2,ho,hsp⟩:=hpt hver
    rw [hm] at hm2
    simp only [Option.some.injEq,Prod.mk.injEq] at hm2
    obtain ⟨hb',rfl,rfl⟩:=hm2
    have hR':R g (.slice (some ⟨b,0,none⟩) es'.length k) (.sl r ver 0 es'.length none) :=
     .sl hv hle' hrow.fits (fun c' e=>by cases e) fun _=>⟨k,sz',hm,fun _=>by simp,rfl,by omega,fun _=>by omega⟩
    obtain ⟨S,k1,g1,s1⟩:=jP1 hf hW hR' hs
    refine ⟨S,k1,?_,rfl,rfl,fun _ vs e=>by cases e⟩
    rw [Addr.eta hsp,← hb',ho]
    clear hR' hs
    generalize es'.length=L at g1
    cases g1 with
    | gsl val hsz hc hS hcap hle h =>
     have:=GR.gptr (S:=S) (b:=b) (base:=0) (off:=off) val hsz hc (fun i e j x p q=>hS i e j x p q) h
     rw [Nat.zero_add] at this
     exact this
   | _ =>
    unfold jt0 at hs
    rw [hr] at hs
    cases hs
  ·cases hp
 ·cases hp
theorem Xd1 {es:List (V×V)} {i:Nat} {x:V} (h:(fstL es)[i]?=some x):∃ p,es[i]?=some p∧x=p.1:=by
 induction es generalizing i with
 | nil=>change ([]:List V)[i]?=some x at h;simp at h
 | cons p es IH =>
  change (p.1::fstL es)[i]?=some x at h
  cases i with
  | zero=>simp at h;exact ⟨p,rfl,h.symm⟩
  | succ i=>exact IH (by simpa using h)
theorem zs2 {es:List (V×V)} {i:Nat} {x:V} (h:(sndL es)[i]?=some x):∃ p,es[i]?=some p∧x=p.2:=by
 induction es generalizing i with
 | nil=>change ([]:List V)[i]?=some x at h;simp at h
 | cons p es IH =>
  change (p.2::sndL es)[i]?=some x at h
  cases i with
  | zero=>simp at h;exact ⟨p,rfl,h.symm⟩
  | succ i=>exact IH (by simpa using h)
theorem yr1 (es:List (V×V)):(fstL es).length=es.length:=by
 induction es with
 | nil=>rfl
 | cons p es IH=>change (p.1::fstL es).length=_;rw [List.length_cons,List.length_cons,IH]
theorem Qw1 (es:List (V×V)):(sndL es).length=es.length:=by
 induction es with
 | nil=>rfl
 | cons p es IH=>change (p.2::sndL es).length=_;rw [List.length_cons,List.length_cons,IH]
theorem qa2 {seen:List Nat} {f:Heap→V→Option (V×Heap)} (hf:PubF seen f) {B:Ns} {w0:World} {g:Gh} {h:Heap} {w:World} {v:Value} {r:Nat} {x':V} {h':Heap} (hW:W B w0 g h w) (hR:R g v (.map r)) (hp:XG0 f seen h r=some (x',h')) :
 ∃ S,PubOk seen B w0 g h h' w S∧GR S v x'∧Shape (.map r) x':=by
 unfold XG0 at hp
 split at hp
 ·rename_i es hr
  cases hs:qB0 r seen with
  | true=>rw [hs] at hp;cases hp
  | false =>
   rw [hs] at hp
   simp only [cond_false] at hp
   have hns:r∉seen:=fun e=>by rw [(YR0 r seen).2 e] at hs;cases hs
   split at hp
   ·cases hp
   ·rename_i ks h1 hk
    split at hp
    ·cases hp
    ·rename_i vs h2 hv
     split at hp
     ·rename_i es2 hr2
      cases hp
      obtain ⟨b,kk,rfl,hvr,hm⟩:=hR.map_inv
      have hobj:=hW.obj r _ hm
      rw [hr] at hobj
      obtain ⟨_,E,clock,e1,e2,e3,_⟩:=hobj
      have e1:w.heap[b]?=some (.map E clock):=e1
      obtain ⟨S1,k1,n1,g1,_⟩:=jc0 hf (fstL es) (vs:=E.toList.map (·.key)) hW (by simp [yr1,e2]) (fun i u x hu hx=>by
       obtain ⟨p,hp1,rfl⟩:=Xd1 hx
       rw [List.getElem?_map] at hu
       cases he:E.toList[i]? with
       | none=>rw [he] at hu;cases hu
       | some e =>
        rw [he] at hu;cases hu
        exact (e3 i e p (by simpa using he) hp1).1) hk
      obtain ⟨S2,k2,n2,g2,_⟩:=jc0 hf (sndL es) (vs:=E.toList.map (·.val)) k1.world (by simp [Qw1,e2]) (fun i u x hu hx=>by
       obtain ⟨p,hp1,rfl⟩:=zs2 hx
       rw [List.getElem?_map] at hu
       cases he:E.toList[i]? with
       | none=>rw [he] at hu;cases hu
       | some e =>
        rw [he] at hu;cases hu
        exact (e3 i e p (by simpa using he) hp1).2.mono k1.grown.ext) hv
      have k12:=k1.trans k2
      have hW2:W B w0 (g.say S2) h2 w:=k12.world
      have hm2:(g.say S2).mu r=some (b,kk):=hm
      obtain ⟨E2,c2,q1,_,_,_,S3,hext,hoth,hat,hg3,hW3⟩:=hW2.sealMap hr2 hm2 hvr
      rw [e1] at q1
      cases q1
      refine ⟨S3,k12.trans ⟨hg3,hW3,⟨Heap.n_set _ _ _,fun q hq=>by rw [Heap.get_set,if_neg (fun (e:r=q)=>hns (by rw [e];exact hq))],fun q hq y hy o u hu=>?_,fun q ver ty sz pub cap es' e=>?_,fun q es' e=>?_,fun q e=>?_⟩⟩,?_,rfl,rfl,fun _ vs e=>by cases e⟩
      ·have hy':g.mu q=some y:=hy
       exact hoth y.1 (fun e=>hns (by rw [← hW2.inj q r y _ hy' hm2 e];exact hq)) o u hu
      ·rw [Heap.get_set]
       split
       ·rename_i q';subst q';rw [hr2] at e;cases e
       ·exact ⟨_,e⟩
      ·rw [Heap.get_set]
       split
       ·exact .inr rfl
       ·exact .inl e
      ·rw [Heap.get_set]
       split
       ·rfl
       ·exact e
      ·have hl1:E.size=ks.length:=by rw [n1,yr1,e2]
       have hl2:E.size=vs.length:=by rw [n2,Qw1,e2]
       refine .gmap (E:=E) (c:=clock) hat hl1 hl2 (fun i e x he hx=>?_) (fun i e x he hx=>?_)
       ·exact ((g1 i e.key x (by rw [List.getElem?_map];simp [he]) hx).mono k2.grown.ext.S).mono hext
       ·exact (g2 i e.val x (by rw [List.getElem?_map];simp [he]) hx).mono hext
     ·cases hp
 ·cases hp
theorem ju0 (seen:List Nat) (k:Nat):PubF seen (pub seen k):=by
 induction k with
 | zero=>intro B w0 g h w v x x' h' _ _ hp;cases hp
 | succ k ih =>
  intro B w0 g h w v x x' h' hW hR hp
  rw [qg2] at hp
  cases x with
  | int a b=>cases hp;have:=hR.int_inv;subst this;exact ⟨g.S,.refl hW,.int _ _,.refl _⟩
  | bool b=>cases hp;have:=hR.bool_inv;subst this;exact ⟨g.S,.refl hW,.bool _,.refl _⟩
  | str s=>cases hp;obtain ⟨s,rfl,h⟩:=hR.str_inv;exact ⟨g.S,.refl hW,.str h,.refl _⟩
  | nilp=>cases hp;have:=hR.nilp_inv;subst this;exact ⟨g.S,.refl hW,.nilp,.refl _⟩
  | nils=>cases hp;have:=hR.nils_inv;subst this;exact ⟨g.S,.refl hW,.nils,.refl _⟩
  | nilm=>cases hp;have:=hR.nilm_inv;subst this;exact ⟨g.S,.refl hW,.nilm,.refl _⟩
  | nilf=>cases hp;have:=hR.nilf_inv;subst this;exact ⟨g.S,.refl hW,.nilf,.refl _⟩
  | nili=>cases hp;have:=hR.nili_inv;subst this;exact ⟨g.S,.refl hW,.nili,.refl _⟩
  | gsl a b c=>cases hp;exact ⟨g.S,.refl hW,hR.gsl_inv,.refl _⟩
  | gptr a b c=>cases hp;exact ⟨g.S,.refl hW,hR.gptr_inv,.refl _⟩
  | osl a b=>cases hp;exact ⟨g.S,.refl hW,(by cases hR with | gnd h=>exact h),.refl _⟩
  | func f a b =>
   cases f with
   | func f =>
    obtain ⟨xs,h1,ys,hx,hy,rfl⟩:=GW1 hp
    obtain ⟨c,d,rfl,n1,n2,r1,r2⟩:=hR.func_inv (fun l=>by simp)
    obtain ⟨S1,k1,m1,g1,_⟩:=jc0 ih a (vs:=c.toList) hW (by simpa using n1) (fun i v x p q=>r1 i v x (by simpa using p) q) hx
    obtain ⟨S2,k2,m2,g2,_⟩:=jc0 ih b (vs:=d.toList) k1.world (by simpa using n2) (fun i v x p q=>(r2 i v x (by simpa using p) q).mono k1.grown.ext) hy
    exact ⟨S2,k1.trans k2,.func (by rw [n1,m1]) (by rw [n2,m2]) (fun i v x p q=>(g1 i v x (by simpa using p) q).mono k2.grown.ext.S) (fun i v x p q=>g2 i v x (by simpa using p) q),rfl,rfl,fun _ vs e=>by cases e⟩
   | _=>cases hp
  | agg vs =>
   obtain ⟨l,hl,rfl⟩:=jM1 hp
   obtain ⟨cs,rfl,hn,h1,h⟩:=hR.agg_inv
   obtain ⟨S,p,n',q,s⟩:=jc0 ih vs (vs:=cs.toList) hW (by simpa using hn) (fun i v x a b=>h i v x (by simpa using a) b) hl
   refine ⟨S,p,.agg (by rw [hn,n']) h1 (fun i v x a b=>q i v x (by simpa using a) b),rfl,by simpa [V.cells] using n',fun hne=>absurd rfl (hne vs)⟩
  | tup vs =>
   obtain ⟨l,hl,rfl⟩:=jM1 hp
   obtain ⟨cs,rfl,hn,h⟩:=hR.tup_inv
   obtain ⟨S,p,n',q,s⟩:=jc0 ih vs (vs:=cs.toList) hW (by simpa using hn) (fun i v x a b=>h i v x (by simpa using a) b) hl
   exact ⟨S,p,.tup (by rw [hn,n']) (fun i v x a b=>q i v x (by simpa using a) b),rfl,rfl,fun _ vs e=>by cases e⟩
  | iface t x =>
   obtain ⟨y,rfl,hy⟩:=hR.iface_inv
   simp only at hp
   split at hp
   ·rename_i x1 h1 hx
    cases hp
    obtain ⟨S,p,q,_⟩:=ih hW hy hx
    exact ⟨S,p,.iface q,rfl,rfl,fun _ vs e=>by cases e⟩
   ·cases hp
  | sl r ver o n c=>exact jP1 ih hW hR hp
  | ptr r ver off=>exact qb2 ih hW hR hp
  | fsl=>cases hp
  | gmap a b=>cases hp;exact ⟨g.S,.refl hW,hR.gmap_inv,.refl _⟩
  | map r=>exact qa2 ih hW hR hp
  | iter=>cases hp
  | any=>cases hp
  | imod=>cases hp
end
end Go.AM
