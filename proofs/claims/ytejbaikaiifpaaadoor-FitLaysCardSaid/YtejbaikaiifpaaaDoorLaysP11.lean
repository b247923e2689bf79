/-
  WHAT FUNCTIONS OF THE PROGRAM COME TO: walked over states of which a part is known. No condition but what each theorem says of its arguments.
-/
import Derived.Test.YtejbaikaiifpaaaDoorLaysP10
import Derived.Test.YtejbaikaiifpaaaDoorLaysP9
namespace Go.AM
open Go.Proofs
set_option maxRecDepth 100000
set_option maxHeartbeats 4000000
def RlI (w:Int) (R:List UInt8) (a:List Th×List UInt8×Int):Prop:=LayQ w R a.1 a.2.1 a.2.2∧sumT a.1≤1000
theorem qm6 {r:List Th} {o:List UInt8} {c w:Int} {s:Fr} {h:Heap} (hv:Vw 0 s h ((base 25 103).on [(5,.int .i64 w),(6,.gsl 6 (r.map encT) none),(7,.str o),(8,.int .i64 c)]) Heap.empty):Vw 0 s h ((base 25 103).on [(5,.int .i64 w),(6,.osl 6 (r.map encT)),(7,.str o),(8,.int .i64 c)]) Heap.empty :=
 hv.trans (Vw.slot (b:=base 25 103) 6 (.gsl 6 (r.map encT) none) (.osl 6 (r.map encT)) [5,6,7,8] (by kernel_rfl) .gsl (by simp [lost]) (by kernel_rfl) (by kernel_rfl))
theorem zv9 {l:List Th} {u:Th} (h:u∈l):szD u.d≤sumT l:=by
 induction l with
 | nil=>cases h
 | cons t l IH =>
  rw [j5]
  rcases List.mem_cons.1 h with q | q
  ·subst q;omega
  ·have:=IH q;omega
section rl
variable {w:Int} {R out:List UInt8} {t:Th} {r:List Th} {col:Int}
theorem z91 (h:sumT (t::r)≤1000):sumT r≤1000:=by rw [j5] at h;omega
theorem j17 (h:sumT (t::r)≤1000) (fl:Bool):sumT (z6 t fl++r)≤1000:=by
 have:=q91 t fl
 rw [j5] at h;rw [q57];omega
theorem RlI.text (h:RlI w R (t::r,out,col)) (hk:t.d.kind=1):RlI w R (r,out++t.d.text,colS t.d.text col):=⟨h.1.text hk,z91 h.2⟩
theorem RlI.line (h:RlI w R (t::r,out,col)) (hk:t.d.kind=2∨t.d.kind=3∨t.d.kind=4) (hf:t.flat=false∨t.d.kind=4):RlI w R (r,out++endS t.n,max t.n 0):=⟨by
 have:=h.1.line hk hf
 rw [zt1] at this
 rw [show max t.n 0=(t.n.toNat:Int) by omega];exact this,z91 h.2⟩
theorem RlI.blank (h:RlI w R (t::r,out,col)) (hk:t.d.kind=2) (hf:t.flat=true):RlI w R (r,out++[32],col+1):=⟨by
 have:=h.1.blank hk hf
 rw [zi6] at this;exact this,z91 h.2⟩
theorem RlI.soft (h:RlI w R (t::r,out,col)) (hk:t.d.kind=3) (hf:t.flat=true):RlI w R (r,out,col):=⟨h.1.soft hk hf,z91 h.2⟩
theorem RlI.push (h:RlI w R (t::r,out,col)) (fl:Bool) (he:layS w (z6 t fl++r) col=layS w (t::r) col):RlI w R (z6 t fl++r,out,col):=⟨h.1.push fl he,j17 h.2 fl⟩
theorem RlI.fit (h:RlI w R (t::r,out,col)):RfI w (y1 w (z6 t true++r) col) (z6 t true++r,col):=by
 have hs:=h.2
 have hc:=h.1.hcol
 simp only at hs hc
 have hk:=q91 t true
 rw [j5] at hs hc
 refine ⟨fun u hu=>?_,?_,hc.1,?_,rfl⟩
 ·rcases List.mem_append.1 hu with q | q
  ·exact qy3 (zd7 (h.1.ok t (by simp)) true u q) (by have:=zv9 q;omega)
  ·exact qy3 (h.1.ok u (by simp [q])) (by have:=zv9 q;omega)
 ·simp only [q57];omega
 ·simp only [q57];omega
end rl
theorem cRFits' {w col:Int} {l:List Th} (hq:RfI w (y1 w l col) (l,col)):Cp Tryd.prog EU 47 [.osl 6 (l.map encT),.int .i64 col,.int .i64 w] (.bool (y1 w l col)):=j33 hq
theorem cBehindT {s:List UInt8} {col:Int} (hs:s.length≤1000) (h0:0≤col) (h1:col≤1000000000):Cp Tryd.prog EU 43 [.str s,.int .i64 col] (.int .i64 (colS s col)):=xx5 1000 s hs (by omega) col h0 h1
theorem cRKidsF {t:Th} (hr:j7 t.d) (hl:t.d.kids.length≤100000) (hn:-1000000000≤t.n+t.d.n∧t.n+t.d.n≤1000000000) (hn2:-1000000000≤t.n∧t.n≤1000000000):Cp Tryd.prog EU 46 [.agg [.int .i64 t.d.kind,.str t.d.text,.int .i64 t.d.n,.osl 4 (esD t.d),.bool true,.int .i64 t.n]] (.osl 6 ((z6 t true).map encT)):=cRKids (t:=⟨t.d,true,t.n⟩) hr hl hn hn2
theorem cRLayout {d:Dc} {wd:Int} (hr:j7 d) (hs:szD d≤1000) (hpn:pnD d≤320):Cp Tryd.prog EU 25 [encD d,.int .i64 wd] (.str (layD wd d)):=by
 refine Cp.body (fn:=Tryd.f25) Tryd.func25 rfl (by kernel_rfl) ?_
 unfold layD
 obtain ⟨w,hw⟩:∃ w,w=max 0 (min wd 10000):=⟨_,rfl⟩
 refine Wc.seq (Wc.wn0 [(0,(.agg [(.int .i64 (d.kind)),(.str (d.text)),(.int .i64 (d.n)),(.osl 4 (esD d))])),(1,(.int .i64 (wd))),(2,(.ptr 0 0 0)),(4,(.str []))] (hp [.row 0 26 4 0 (some 1) [(.agg [(.int .i64 (d.kind)),(.str (d.text)),(.int .i64 (d.n)),(.osl 4 (esD d))])]]) ?_)
 refine Wc.seq (Wc.enter (Wl.b0 0 1 [(13,(.int .i64 (wd)))] ?_))
 refine Wl.c 1 [(14,(.int .i64 (max 0 (min wd 10000))))] (@Go.AM.cClip (wd)) ?_
 refine Wl.b0 2 3 [(5,(.int .i64 (max 0 (min wd 10000))))] ?_
 refine Wl.dn 3 (Wc.seq (Wc.w0 [(6,(.gsl 6 [(.agg [(.int .i64 (d.kind)),(.str (d.text)),(.int .i64 (d.n)),(.osl 4 (esD d)),(.bool false),(.int .i64 0)])] (some 1)))] ?_))
 refine Wc.seq (Wc.w0 [(7,(.str []))] ?_)
 refine Wc.seq (Wc.w0 [(8,(.int .i64 0))] ?_)
 refine Wc.seq (Wc.block ?_)
 rw [← hw]
 have hw2:0≤w∧w≤10000:=by omega
 have h0:RlI w (layS w [⟨d,false,0⟩] 0) ([⟨d,false,0⟩],[],0):=⟨⟨fun t ht=>by rw [List.mem_singleton] at ht;subst ht;exact ⟨hr,by simp only;omega⟩,by simp only [j5,q93];omega,⟨Int.le_refl 0,by simp only [j5,q93];omega⟩,by simp only [j5,q93,List.length_nil];omega,rfl⟩,by simp only [j5,q93];omega⟩
 generalize layS w [⟨d,false,0⟩] 0=R at *
 refine Wc.loopV (α:=List Th×List UInt8×Int) (fun a=>(base 25 103).on [(5,.int .i64 w),(6,.osl 6 (a.1.map encT)),(7,.str a.2.1),(8,.int .i64 a.2.2)]) (fun _=>Heap.empty) (RlI w R) (fun a=>w8 a.1) ([⟨d,false,0⟩],[],0) (qm6 (r:=[⟨d,false,0⟩]) ?_) h0 ?_
 ·refine Vw.trans (Vw.slot (b:=base 25 103) (L':=[(5,.int .i64 w),(6,.gsl 6 ([⟨d,false,0⟩].map encT) none),(7,.str []),(8,.int .i64 0)]) 6 (.gsl 6 ([⟨d,false,0⟩].map encT) (some 1)) (.gsl 6 ([⟨d,false,0⟩].map encT) none) [5,6,7,8] (by kernel_rfl) (.trans .gsl (z38 (by simp))) (by simp [lost]) (by kernel_rfl) (by kernel_rfl)) ?_
  exact Vw.gk [] [] .nil
 clear h0 hw hr hs hpn d
 rintro ⟨l,out,col⟩ ⟨hQ,hsum⟩
 simp only at hQ hsum
 rcases l with _ | ⟨t,r⟩
 ·refine Wc.seq (Wc.seq (Wc.wn0 [(5,(.int .i64 (w))),(6,(.osl 6 [])),(7,(.str out)),(8,(.int .i64 (col))),(20,(.bool false))] Heap.empty ?_))
  refine Wc.cf (Wc.exit (z8.here (Wc.seq (Wc.w0 [(4,(.str out))] ?_))))
  refine Wc.ret ?_
  refine retX.mk (.str out) ⟨rfl,rfl⟩ (by kernel_rfl) ?_
  have e:=hQ.all
  unfold layS at e
  rw [List.append_nil] at e
  rw [e];rfl
 have hQs:=hsum
 have hts:okL t:=hQ.ok t (by simp)
 have hend:(endS t.n).length≤1000:=by have:=hts.2;unfold endS;rw [List.length_cons,q37];omega
 have hcol:=hQ.hcol
 have hout:=hQ.hout
 rw [j5] at hsum hcol hout
 have htx:=y3 t.d
 have hsz:=q07 t.d
 obtain ⟨er,her⟩:∃ er,er=r.map encT:=⟨_,rfl⟩
 change Wc Tryd.prog EU _ ((base 25 103).on [(5,.int .i64 w),(6,.osl 6 (encT t::r.map encT)),(7,.str out),(8,.int .i64 col)]) Heap.empty _ _ _
 rw [← her]
 refine Wc.view (Vw.slot (b:=base 25 103) (L':=[(5,.int .i64 w),(6,.gsl 6 (encT t::er) none),(7,.str out),(8,.int .i64 col)]) 6 (.osl 6 (encT t::er)) (.gsl 6 (encT t::er) none) [5,6,7,8] (by kernel_rfl) (z38 (by simp)) (by simp [lost]) (by kernel_rfl) (by kernel_rfl)) ?_
 refine Wc.seq (Wc.seq (Wc.wn0 [(5,(.int .i64 (w))),(6,(.gsl 6 ((encT t)::er) none)),(7,(.str out)),(8,(.int .i64 (col))),(20,(.bool (decide (0<(List.length (encT t::er):Int)))))] Heap.empty ?_))
 refine Wc.cq (p:=0<(List.length (encT t::er):Int)) (fun c1=>?_) (fun c1=>absurd (show 0<(List.length (encT t::er):Int) from (by simp)) c1)
 refine Wc.skip (Wc.block (Wc.seq (Wc.wn [(9,(.ptr 0 0 0))] (hp [.row 0 69 6 0 (some 1) [(.agg [(.int .i64 (t.d.kind)),(.str (t.d.text)),(.int .i64 (t.d.n)),(.osl 4 (esD t.d)),(.bool (t.flat)),(.int .i64 (t.n))])]]) [(((0:Int)≤0)∧(0<(List.length (encT t::er):Int)))] (.cons (by omega) .nil) ?_)))
 refine Wc.seq ?_
 have hkl:t.d.kids.length≤100000:=by have:=qc3 t.d;omega
 have hkn:=qb3 t t.flat
 have hkn2:=qb3 t true
 have hlo:=qe6 r
 have hto:okT t:=qy3 hts (by omega)
 have hbn:=ql5 hto
 have hn2:-1000000000≤t.n∧t.n≤1000000000:=by have:=hto.2;omega
 have hn3:t.n≤100000:=by have:=hto.2;omega
 have hrt:=hto.1
 have hfl:(x8 t.d).length≤100000:=by have:=qf4 t.d;omega
 refine Wc.mid ((base 25 103).on [(5,.int .i64 w),(6,.gsl 6 er none),(7,.str out),(8,.int .i64 col),(9,.ptr 0 0 0)]) (hp [.row 0 69 6 0 (some 1) [encT t]]) ?_ ?_
 ·refine Wc.wn [(5,(.int .i64 (w))),(6,(.gsl 6 (List.drop 1 (encT t::er)) none)),(7,(.str out)),(8,(.int .i64 (col))),(9,(.ptr 0 0 0)),(20,(.bool (decide (0<(List.length (encT t::er):Int)))))] (hp [.row 0 69 6 0 (some 1) [(.agg [(.int .i64 (t.d.kind)),(.str (t.d.text)),(.int .i64 (t.d.n)),(.osl 4 (esD t.d)),(.bool (t.flat)),(.int .i64 (t.n))])]]) [(((0:Int)≤1)∧(1≤(List.length (encT t::er):Int)))] (.cons (by omega) .nil) ?_
  exact Vw.gk [(0,false)] [(0=0)] (.cons (by omega) .nil)
 rw [her]
 refine Wc.seq ?_
 let v1:V:=(.gsl 6 (List.map encT r) none)
 let v2:Obj:=.row 0 69 6 0 (some 1) [(encT t)]
 refine Wc.wn0 [(5,(.int .i64 (w))),(6,v1),(7,(.str out)),(8,(.int .i64 (col))),(9,(.ptr 0 0 0)),(28,(.int .i64 (t.d.kind)))] (hp [v2]) ?_
 refine Wc.block (Wc.seq ?_)
 let v3:V:=(.bool (decide (t.d.kind=1)))
 refine Wc.w0 [(29,v3)] ?_
 refine Wc.cq (p:=t.d.kind=1) (fun c2=>?_) (fun c2=>?_)
 ·refine Wc.seq (Wc.w [(7,(.str (out++t.d.text)))] [(List.length out+List.length t.d.text≤(1099511627776:Nat))] (.cons (by omega) .nil) ?_)
  refine Wc.enter (Wl.b0 0 4 [(38,(.str (t.d.text))),(39,(.int .i64 (col)))] ?_)
  refine Wl.c 4 [(40,(.int .i64 (colS t.d.text col)))] (@Go.AM.cBehindT (t.d.text) (col) (by omega) (by omega) (by omega)) ?_
  refine Wl.b0 5 6 [(8,(.int .i64 (colS t.d.text col)))] ?_
  refine Wl.dn 6 ?_
  refine ⟨(r,out++t.d.text,colS t.d.text col),qm6 ?_,RlI.text ⟨hQ,hQs⟩ c2,y9 t r⟩
  exact Vw.gk [] [] .nil
 refine Wc.seq (Wc.seq ?_)
 let v4:V:=(.bool (decide (t.d.kind=2)))
 refine Wc.w0 [(41,v4)] ?_
 refine Wc.cq (p:=t.d.kind=2) (fun c3=>?_) (fun c3=>?_)
 ·refine Wc.skip ?_
  refine Wc.cq (p:=t.d.kind=2) (fun c4=>?_) (fun c4=>absurd (show t.d.kind=2 from c3) c4)
  refine Wc.seq (Wc.enter (Wl.b0 0 4 [(48,(.bool (!t.flat)))] ?_))
  refine Wl.split (p:=(t.flat)=true) (fun c5=>?_) (fun c5=>?_)
  ·refine Wl.k 48 (.bool (!t.flat)) (.bool false) (by have e:=c5;simp only [e] <;> rfl) ?_
   refine Wl.b0 4 9 [(53,(.bool (decide (t.d.kind=4))))] ?_
   refine Wl.dn 9 ?_
   refine Wc.cq (p:=t.d.kind=4) (fun c6=>absurd c6 (show ¬ (t.d.kind=4) from (by omega))) (fun c6=>?_)
   refine Wc.seq (Wc.w0 [(65,v4)] ?_)
   refine Wc.cq (p:=t.d.kind=2) (fun c7=>?_) (fun c7=>absurd (show t.d.kind=2 from c3) c7)
   refine Wc.seq (Wc.w [(7,(.str (out++[32])))] [(List.length out+1≤1099511627776)] (.cons (by omega) .nil) ?_)
   refine Wc.w [(8,(.int .i64 (col+1)))] [(i64r (col+1))] (.cons (by omega) .nil) ?_
   refine ⟨(r,out++[32],col+1),qm6 ?_,RlI.blank ⟨hQ,hQs⟩ c3 c5,y9 t r⟩
   exact Vw.gk [] [] .nil
  refine Wl.k 48 (.bool (!t.flat)) (.bool true) (by have e:=Bool.eq_false_iff.2 c5;simp only [e] <;> rfl) ?_
  refine Wl.b0 4 9 [(53,(.bool true))] ?_
  refine Wl.dn 9 (Wc.ct (Wc.seq (Wc.enter (Wl.b0 0 3 [(54,(.str out)),(56,(.int .i64 (t.n)))] ?_))))
  refine Wl.c 3 [(57,(.str (endS t.n)))] (@Go.AM.cEnd (t.n) hn3) ?_
  refine Wl.bs 4 6 [(7,(.str (out++endS t.n)))] [(List.length out+List.length (endS t.n)≤1099511627776)] (.cons (by omega) .nil) ?_
  refine Wl.dn 6 (Wc.w0 [(8,(.int .i64 (max t.n 0)))] ?_)
  refine ⟨(r,out++endS t.n,max t.n 0),qm6 ?_,RlI.line ⟨hQ,hQs⟩ (.inl c3) (.inl (by simpa using c5)),y9 t r⟩
  exact Vw.gk [] [] .nil
 refine Wc.seq (Wc.w0 [(41,(.bool (decide (t.d.kind=3))))] ?_)
 refine Wc.cq (p:=t.d.kind=3) (fun c8=>?_) (fun c8=>?_)
 ·refine Wc.skip ?_
  refine Wc.cq (p:=t.d.kind=3) (fun c9=>?_) (fun c9=>absurd (show t.d.kind=3 from c8) c9)
  refine Wc.seq (Wc.enter (Wl.b0 0 4 [(48,(.bool (!t.flat)))] ?_))
  refine Wl.split (p:=(t.flat)=true) (fun c10=>?_) (fun c10=>?_)
  ·refine Wl.k 48 (.bool (!t.flat)) (.bool false) (by have e:=c10;simp only [e] <;> rfl) ?_
   refine Wl.b0 4 9 [(53,(.bool (decide (t.d.kind=4))))] ?_
   refine Wl.dn 9 ?_
   refine Wc.cq (p:=t.d.kind=4) (fun c11=>absurd c11 (show ¬ (t.d.kind=4) from (by omega))) (fun c11=>?_)
   refine Wc.seq (Wc.w0 [(65,v4)] ?_)
   refine Wc.cq (p:=t.d.kind=2) (fun c12=>absurd c12 (show ¬ (t.d.kind=2) from c3)) (fun c12=>?_)
   refine Wc.skip ?_
   refine ⟨(r,out,col),qm6 ?_,RlI.soft ⟨hQ,hQs⟩ c8 c10,y9 t r⟩
   exact Vw.gk [] [] .nil
  refine Wl.k 48 (.bool (!t.flat)) (.bool true) (by have e:=Bool.eq_false_iff.2 c10;simp only [e] <;> rfl) ?_
  refine Wl.b0 4 9 [(53,(.bool true))] ?_
  refine Wl.dn 9 (Wc.ct (Wc.seq (Wc.enter (Wl.b0 0 3 [(54,(.str out)),(56,(.int .i64 (t.n)))] ?_))))
  refine Wl.c 3 [(57,(.str (endS t.n)))] (@Go.AM.cEnd (t.n) hn3) ?_
  refine Wl.bs 4 6 [(7,(.str (out++endS t.n)))] [(List.length out+List.length (endS t.n)≤1099511627776)] (.cons (by omega) .nil) ?_
  refine Wl.dn 6 (Wc.w0 [(8,(.int .i64 (max t.n 0)))] ?_)
  refine ⟨(r,out++endS t.n,max t.n 0),qm6 ?_,RlI.line ⟨hQ,hQs⟩ (.inr (.inl c8)) (.inl (by simpa using c10)),y9 t r⟩
  exact Vw.gk [] [] .nil
 let v5:V:=(.bool (decide (t.d.kind=4)))
 refine Wc.w0 [(41,v5)] ?_
 refine Wc.cq (p:=t.d.kind=4) (fun c13=>?_) (fun c13=>?_)
 ·refine Wc.seq (Wc.enter (Wl.b0 0 4 [(48,(.bool (!t.flat)))] ?_))
  refine Wl.split (p:=(t.flat)=true) (fun c14=>?_) (fun c14=>?_)
  ·refine Wl.k 48 (.bool (!t.flat)) (.bool false) (by have e:=c14;simp only [e] <;> rfl) ?_
   refine Wl.b0 4 9 [(53,v5)] ?_
   refine Wl.dn 9 ?_
   refine Wc.cq (p:=t.d.kind=4) (fun c15=>?_) (fun c15=>absurd (show t.d.kind=4 from c13) c15)
   refine Wc.seq (Wc.enter (Wl.b0 0 3 [(54,(.str out)),(56,(.int .i64 (t.n)))] ?_))
   refine Wl.c 3 [(57,(.str (endS t.n)))] (@Go.AM.cEnd (t.n) hn3) ?_
   refine Wl.bs 4 6 [(7,(.str (out++endS t.n)))] [(List.length out+List.length (endS t.n)≤1099511627776)] (.cons (by omega) .nil) ?_
   refine Wl.dn 6 (Wc.w0 [(8,(.int .i64 (max t.n 0)))] ?_)
   refine ⟨(r,out++endS t.n,max t.n 0),qm6 ?_,RlI.line ⟨hQ,hQs⟩ (.inr (.inr c13)) (.inr c13),y9 t r⟩
   exact Vw.gk [] [] .nil
  refine Wl.k 48 (.bool (!t.flat)) (.bool true) (by have e:=Bool.eq_false_iff.2 c14;simp only [e] <;> rfl) ?_
  refine Wl.b0 4 9 [(53,(.bool true))] ?_
  refine Wl.dn 9 (Wc.ct (Wc.seq (Wc.enter (Wl.b0 0 3 [(54,(.str out)),(56,(.int .i64 (t.n)))] ?_))))
  refine Wl.c 3 [(57,(.str (endS t.n)))] (@Go.AM.cEnd (t.n) hn3) ?_
  refine Wl.bs 4 6 [(7,(.str (out++endS t.n)))] [(List.length out+List.length (endS t.n)≤1099511627776)] (.cons (by omega) .nil) ?_
  refine Wl.dn 6 (Wc.w0 [(8,(.int .i64 (max t.n 0)))] ?_)
  refine ⟨(r,out++endS t.n,max t.n 0),qm6 ?_,RlI.line ⟨hQ,hQs⟩ (.inr (.inr c13)) (.inr c13),y9 t r⟩
  exact Vw.gk [] [] .nil
 refine Wc.seq (Wc.seq (Wc.w0 [(70,(.bool (decide (t.d.kind=5))))] ?_))
 refine Wc.cq (p:=t.d.kind=5) (fun c16=>?_) (fun c16=>?_)
 ·refine Wc.skip ?_
  refine Wc.cq (p:=t.d.kind=5) (fun c17=>?_) (fun c17=>absurd (show t.d.kind=5 from c16) c17)
  refine Wc.enter (Wl.b0 0 1 [(73,(.agg [(.int .i64 (t.d.kind)),(.str (t.d.text)),(.int .i64 (t.d.n)),(.osl 4 (esD t.d)),(.bool (t.flat)),(.int .i64 (t.n))]))] ?_)
  refine Wl.c 1 [(74,(.osl 6 (List.map encT (z6 t t.flat))))] (@Go.AM.cRKids (t) hrt hkl hbn hn2) ?_
  refine Wl.b0 2 3 [(75,v1)] ?_
  let v6:V:=(.osl 6 (List.map encT (z6 t t.flat++r)))
  refine Wl.c 3 [(76,v6)] (@Go.AM.cAheadG (z6 t t.flat) (r) (by omega) (by omega)) ?_
  refine Wl.b0 4 5 [(6,v6)] ?_
  refine Wl.dn 5 ?_
  refine ⟨(z6 t t.flat++r,out,col),?_,RlI.push ⟨hQ,hQs⟩ _ (qk0 c2 (by omega) (by omega)),q02 t t.flat r⟩
  exact Vw.gk [] [] .nil
 let v7:V:=(.bool (decide (t.d.kind=7)))
 refine Wc.w0 [(70,v7)] ?_
 refine Wc.cq (p:=t.d.kind=7) (fun c18=>?_) (fun c18=>?_)
 ·refine Wc.enter (Wl.b0 0 1 [(73,(.agg [(.int .i64 (t.d.kind)),(.str (t.d.text)),(.int .i64 (t.d.n)),(.osl 4 (esD t.d)),(.bool (t.flat)),(.int .i64 (t.n))]))] ?_)
  refine Wl.c 1 [(74,(.osl 6 (List.map encT (z6 t t.flat))))] (@Go.AM.cRKids (t) hrt hkl hbn hn2) ?_
  refine Wl.b0 2 3 [(75,v1)] ?_
  let v8:V:=(.osl 6 (List.map encT (z6 t t.flat++r)))
  refine Wl.c 3 [(76,v8)] (@Go.AM.cAheadG (z6 t t.flat) (r) (by omega) (by omega)) ?_
  refine Wl.b0 4 5 [(6,v8)] ?_
  refine Wl.dn 5 ?_
  refine ⟨(z6 t t.flat++r,out,col),?_,RlI.push ⟨hQ,hQs⟩ _ (qk0 c2 (by omega) (by omega)),q02 t t.flat r⟩
  exact Vw.gk [] [] .nil
 refine Wc.seq ?_
 let v9:V:=(.bool (decide (t.d.kind=6)))
 refine Wc.w0 [(77,v9)] ?_
 refine Wc.cq (p:=t.d.kind=6) (fun c19=>?_) (fun c19=>?_)
 ·refine Wc.seq ?_
  have hfit:=RlI.fit ⟨hQ,hQs⟩
  have cFl:=x06 t.d (by omega) hrt
  cases hh:k8 t.d with
  | false =>
   have cFl:Cp Tryd.prog EU 17 [encD t.d] (.tup [.str (x8 t.d),.bool true]):=by rw [hh] at cFl;exact cFl
   refine Wc.enter (Wl.b0 0 2 [(81,(.agg [(.int .i64 (t.d.kind)),(.str (t.d.text)),(.int .i64 (t.d.n)),(.osl 4 (esD t.d))]))] ?_)
   refine Wl.c 2 [(82,(.tup [(.str (x8 t.d)),(.bool true)]))] (@cFl) ?_
   refine Wl.b0 3 8 [(11,(.bool true))] ?_
   refine Wl.dn 8 (Wc.seq ?_)
   let v10:Obj:=.row 0 69 6 0 (some 1) [(encT t)]
   let v11:V:=(.agg [(.int .i64 (t.d.kind)),(.str (t.d.text)),(.int .i64 (t.d.n)),(.osl 4 (esD t.d)),(.bool (t.flat)),(.int .i64 (t.n))])
   refine Wc.wn0 [(12,(.ptr 1 0 0))] (hp [v10,.row 0 69 6 0 (some 1) [v11]]) ?_
   refine Wc.seq ?_
   let v12:V:=(.agg [(.int .i64 (t.d.kind)),(.str (t.d.text)),(.int .i64 (t.d.n)),(.osl 4 (esD t.d)),(.bool true),(.int .i64 (t.n))])
   let v13:Obj:=.row 0 69 6 0 (some 1) [v12]
   let v14:Heap:=(hp [v10,v13])
   refine Wc.wn0 [] v14 ?_
   refine Wc.seq (Wc.seq (Wc.enter (Wl.b0 0 3 [(88,(.bool true)),(89,v12)] ?_)))
   refine Wl.c 3 [(90,(.osl 6 (List.map encT (z6 t true))))] (@Go.AM.cRKidsF (t) hrt hkl hbn hn2) ?_
   let v15:V:=(.gsl 6 (List.map encT r) none)
   refine Wl.b0 4 5 [(91,v15)] ?_
   let v16:V:=(.osl 6 (List.map encT (z6 t true++r)))
   refine Wl.c 5 [(92,v16)] (@Go.AM.cAheadG (z6 t true) (r) (by omega) (by omega)) ?_
   refine Wl.b0 6 8 [(93,(.int .i64 (col))),(94,(.int .i64 (w)))] ?_
   let v17:V:=(.bool (y1 w (z6 t true++r) col))
   refine Wl.c 8 [(95,v17)] (@Go.AM.cRFits' (w) (col) (z6 t true++r) hfit) ?_
   refine Wl.b0 9 10 [(96,v17)] ?_
   refine Wl.dn 10 ?_
   refine Wc.cond (y1 w (z6 t true++r) col) (by kernel_rfl) (by kernel_rfl) (fun c4=>?_) (fun c4=>?_)
   ·refine Wc.wn0 [(5,(.int .i64 (w))),(6,v15),(7,(.str out)),(8,(.int .i64 (col))),(9,(.ptr 0 0 0)),(11,(.bool true)),(12,(.ptr 1 0 0)),(28,(.int .i64 (t.d.kind))),(29,(.bool (decide (t.d.kind=1)))),(41,(.bool (decide (t.d.kind=4)))),(70,(.bool (decide (t.d.kind=7)))),(77,(.bool (decide (t.d.kind=6)))),(96,v17)] (hp [v13,v13]) ?_
    refine Wc.enter (Wl.b0 0 1 [(98,v12)] ?_)
    refine Wl.c 1 [(99,(.osl 6 (List.map encT (z6 t true))))] (@Go.AM.cRKidsF (t) hrt hkl hbn hn2) ?_
    refine Wl.b0 2 3 [(100,v15)] ?_
    refine Wl.c 3 [(101,v16)] (@Go.AM.cAheadG (z6 t true) (r) (by omega) (by omega)) ?_
    refine Wl.b0 4 5 [(6,v16)] ?_
    refine Wl.dn 5 ?_
    refine ⟨(z6 t true++r,out,col),?_,RlI.push ⟨hQ,hQs⟩ _ (zj8 c19 (by rw [hh];simpa using c4)),q02 t true r⟩
    exact Vw.gk [] [] .nil
   refine Wc.skip (Wc.enter (Wl.bn0 0 1 [(5,(.int .i64 (w))),(6,v15),(7,(.str out)),(8,(.int .i64 (col))),(9,(.ptr 0 0 0)),(11,(.bool true)),(12,(.ptr 1 0 0)),(28,(.int .i64 (t.d.kind))),(29,(.bool (decide (t.d.kind=1)))),(41,(.bool (decide (t.d.kind=4)))),(70,(.bool (decide (t.d.kind=7)))),(77,(.bool (decide (t.d.kind=6)))),(96,v17),(98,v11)] v14 ?_))
   refine Wl.c 1 [(99,(.osl 6 (List.map encT (z6 t t.flat))))] (@Go.AM.cRKids (t) hrt hkl hbn hn2) ?_
   refine Wl.b0 2 3 [(100,v15)] ?_
   refine Wl.c 3 [(101,(.osl 6 (List.map encT (z6 t t.flat++r))))] (@Go.AM.cAheadG (z6 t t.flat) (r) (by omega) (by omega)) ?_
   refine Wl.b0 4 5 [(6,(.osl 6 (List.map encT (z6 t t.flat++r))))] ?_
   refine Wl.dn 5 ?_
   refine ⟨(z6 t t.flat++r,out,col),?_,RlI.push ⟨hQ,hQs⟩ _ (qv9 c19 (by rw [hh];simpa using c4)),q02 t t.flat r⟩
   exact Vw.gk [] [] .nil
  | true =>
   have cFl:Cp Tryd.prog EU 17 [encD t.d] (.tup [.str [],.bool false]):=by rw [hh] at cFl;exact cFl
   refine Wc.enter (Wl.b0 0 2 [(81,(.agg [(.int .i64 (t.d.kind)),(.str (t.d.text)),(.int .i64 (t.d.n)),(.osl 4 (esD t.d))]))] ?_)
   refine Wl.c 2 [(82,(.tup [(.str []),(.bool false)]))] (@cFl) ?_
   refine Wl.b0 3 8 [(11,(.bool false))] ?_
   refine Wl.dn 8 (Wc.seq ?_)
   let v18:V:=(.agg [(.int .i64 (t.d.kind)),(.str (t.d.text)),(.int .i64 (t.d.n)),(.osl 4 (esD t.d)),(.bool (t.flat)),(.int .i64 (t.n))])
   refine Wc.wn0 [(12,(.ptr 1 0 0))] (hp [.row 0 69 6 0 (some 1) [(encT t)],.row 0 69 6 0 (some 1) [v18]]) ?_
   refine Wc.seq (Wc.wn0 [] (hp [.row 0 69 6 0 (some 1) [(encT t)],.row 0 69 6 0 (some 1) [(.agg [(.int .i64 (t.d.kind)),(.str (t.d.text)),(.int .i64 (t.d.n)),(.osl 4 (esD t.d)),(.bool true),(.int .i64 (t.n))])]]) ?_)
   refine Wc.seq (Wc.seq (Wc.w0 [(96,(.bool false))] ?_))
   refine Wc.cf (Wc.skip (Wc.enter (Wl.b0 0 1 [(98,v18)] ?_)))
   refine Wl.c 1 [(99,(.osl 6 (List.map encT (z6 t t.flat))))] (@Go.AM.cRKids (t) hrt hkl hbn hn2) ?_
   refine Wl.b0 2 3 [(100,(.gsl 6 (List.map encT r) none))] ?_
   let v19:V:=(.osl 6 (List.map encT (z6 t t.flat++r)))
   refine Wl.c 3 [(101,v19)] (@Go.AM.cAheadG (z6 t t.flat) (r) (by omega) (by omega)) ?_
   refine Wl.b0 4 5 [(6,v19)] ?_
   refine Wl.dn 5 ?_
   refine ⟨(z6 t t.flat++r,out,col),?_,RlI.push ⟨hQ,hQs⟩ _ (qv9 c19 (by rw [hh];rfl)),q02 t t.flat r⟩
   exact Vw.gk [] [] .nil
 refine Wc.skip ?_
 refine ⟨(r,out,col),qm6 ?_,?_,y9 t r⟩
 ·exact Vw.gk [] [] .nil
 have e:=RlI.push ⟨hQ,hQs⟩ t.flat (qk0 c2 (by omega) c19)
 rw [zn1 hrt (by have:=qn1 hrt;omega),List.nil_append] at e
 exact e
end Go.AM
namespace Go.AM
open Go.Proofs
set_option maxRecDepth 100000
set_option maxHeartbeats 4000000
theorem c13 (s:List UInt8) (hs:s.length≤1000):Cp Tryd.prog EU 27 [.str s] (.fsl 9 1 0 ((z7 s).map .str) none):=by
 refine Cp.body (fn:=Tryd.f27) Tryd.func27 rfl (by kernel_rfl) ?_
 refine Wc.seq (Wc.wn0 [(0,(.str s)),(2,.nils)] Heap.empty ?_)
 refine Wc.seq (Wc.wn0 [(3,(.ptr 0 0 0))] (hp [.row 0 41 1 0 (some 1) [.nils]]) ?_)
 refine Wc.seq (Wc.seq (Wc.enter (Wl.b0 0 1 [(5,(.str s))] ?_)))
 refine Wl.callI (b:=(base 27 13)) (h1:=(hp [.row 0 41 1 0 (some 1) [.nils]])) (args:=[(.str s),(.str [10])]) (d:=(some 6)) (fn:=Go.Proofs.Tryd.f49) 1 Go.Proofs.Tryd.func49 rfl (by kernel_rfl) (by kernel_rfl) ?_
 refine Wc.seq (Wc.wn0 [(0,(.str s)),(1,(.str [10])),(4,.nilf)] (hp [.row 0 41 1 0 (some 1) [.nils]]) ?_)
 refine Wc.seq (Wc.enter (Wl.b0 0 2 [(5,(.str s)),(6,(.str [10]))] ?_))
 refine Wl.callI (b:=(base 49 8)) (h1:=(hp [.row 0 41 1 0 (some 1) [.nils]])) (args:=[(.str s),(.str [10]),(.int .i64 0)]) (d:=(some 7)) (fn:=Go.Proofs.Tryd.f61) 2 Go.Proofs.Tryd.func61 rfl (by kernel_rfl) (by kernel_rfl) ?_
 refine Wc.seq (Wc.wn0 [(0,(.str s)),(1,(.str [10])),(2,(.int .i64 0)),(3,(.ptr 1 0 0)),(4,(.ptr 2 0 0)),(5,(.ptr 3 0 0)),(6,.nilf)] (hp [.row 0 41 1 0 (some 1) [.nils],.row 0 9 1 0 (some 1) [(.str s)],.row 0 9 1 0 (some 1) [(.str [10])],.row 0 3 1 0 (some 1) [(.int .i64 0)]]) ?_)
 refine Wc.seq (Wc.w0 [(6,(.func (.func 71) [] [(.ptr 2 0 0),(.ptr 1 0 0),(.ptr 3 0 0)]))] ?_)
 refine Wc.ret ?_
 refine retX.mk (.func (.func 71) [] [(.ptr 2 0 0),(.ptr 1 0 0),(.ptr 3 0 0)]) ⟨rfl,rfl⟩ (by kernel_rfl) ?_
 refine q60.mk [0,1,4,7] [(0,(.str s)),(1,(.str [10])),(4,.nilf),(7,(.func (.func 71) [] [(.ptr 2 0 0),(.ptr 1 0 0),(.ptr 3 0 0)]))] (by kernel_rfl) ?_
 refine Wl.bn0 3 4 [(4,(.func (.func 71) [] [(.ptr 2 0 0),(.ptr 1 0 0),(.ptr 3 0 0)]))] (hp [.row 0 41 1 0 (some 1) [.nils],.row 0 9 1 0 (some 1) [(.str s)],.row 0 9 1 0 (some 1) [(.str [10])],.row 0 3 1 0 (some 1) [(.int .i64 0)]]) ?_
 refine Wl.dn 4 (Wc.ret ?_)
 refine retX.mk (.func (.func 71) [] [(.ptr 2 0 0),(.ptr 1 0 0),(.ptr 3 0 0)]) ⟨rfl,rfl⟩ (by kernel_rfl) ?_
 refine q60.mk [0,2,3,6] [(0,(.str s)),(2,.nils),(3,(.ptr 0 0 0)),(6,(.func (.func 71) [] [(.ptr 2 0 0),(.ptr 1 0 0),(.ptr 3 0 0)]))] (by kernel_rfl) ?_
 refine Wl.dn 2 (Wc.block ?_)
 refine Wc.range (b:=(base 27 13)) (q:=71) (args:=[(.func (.yield 5) [] []),(.ptr 2 0 0),(.ptr 1 0 0),(.ptr 3 0 0)]) rfl rfl (by kernel_rfl) (by kernel_rfl) (fun tm1 hT2=>?_)
 refine Ev.body (fn:=Go.Proofs.Tryd.f71) Go.Proofs.Tryd.func71 rfl (by kernel_rfl) ?_
 refine Wc.seq (Wc.seq (Wc.wn0 [(0,(.func (.yield 5) [] [])),(1,(.ptr 2 0 0)),(2,(.ptr 1 0 0)),(3,(.ptr 3 0 0)),(11,(.bool false))] (hp [.row 0 41 1 0 (some 1) [.nils],.row 0 9 1 0 (some 1) [(.str s)],.row 0 9 1 0 (some 1) [(.str [10])],.row 0 3 1 0 (some 1) [(.int .i64 0)],.defs,.loop .ready none 27 13 tm1 [7] (rAs Tryd.prog 27 0) (rBd Tryd.prog 27 0) 4]) ?_))
 refine Wc.cf (Wc.skip (Wc.seq (Wc.block ?_)))
 refine Wc.loop (α:=Option (List (List UInt8)×List UInt8)) (fun a=>(base 71 52).on [(0,(.func (.yield 5) [] [])),(1,(.ptr 2 0 0)),(2,(.ptr 1 0 0)),(3,(.ptr 3 0 0))])
  (fun a=>match a with
   | none=>(hp [.row 0 41 1 0 (some 1) [.nils],.row 0 9 1 0 (some 1) [(.str (s))],.row 0 9 1 0 (some 1) [(.str [10])],.row 0 3 1 0 (some 1) [(.int .i64 0)],.defs,.loop .ready none 27 13 tm1 [7] (rAs Tryd.prog 27 0) (rBd Tryd.prog 27 0) 4])
   | some (d,r)=>(hp [.row 0 41 1 0 (some 1) [.sl 6 (d.length-1) 0 d.length none],.row 0 9 1 0 (some 1) [(.str r)],.row 0 9 1 0 (some 1) [(.str [10])],.row 0 3 1 0 (some 1) [(.int .i64 0)],.defs,.loop .ready none 27 13 tm1 [7] (rAs Tryd.prog 27 0) (rBd Tryd.prog 27 0) 4,.row (d.length-1) 9 1 0 none (d.map .str)]))
  (fun a=>match a with
   | none=>True
   | some (d,r)=>d≠[]∧z7 s=d++z7 r∧r.length+d.length≤s.length)
  (fun a=>match a with
   | none=>s.length+1
   | some (d,r)=>r.length) none (Le.on [0,1,2,3] (by kernel_rfl)) (by kernel_rfl) trivial ?_
 rintro (_ | ⟨d,r⟩) hI
 ·simp only at hI ⊢
  have hf:=qp0 s
  refine Wc.block (Wc.seq (Wc.enter (Wl.bn0 0 2 [(0,(.func (.yield 5) [] [])),(1,(.ptr 2 0 0)),(2,(.ptr 1 0 0)),(3,(.ptr 3 0 0)),(29,(.str s)),(30,(.str [10]))] (hp [.row 0 41 1 0 (some 1) [.nils],.row 0 9 1 0 (some 1) [(.str s)],.row 0 9 1 0 (some 1) [(.str [10])],.row 0 3 1 0 (some 1) [(.int .i64 0)],.defs,.loop .ready none 27 13 tm1 [7] (rAs Tryd.prog 27 0) (rBd Tryd.prog 27 0) 4]) ?_)))
  refine Wl.c 2 [(31,(.int .i64 (z0 10 s 0)))] (@Go.AM.c29 (s)) ?_
  refine Wl.b0 3 4 [(7,(.int .i64 (z0 10 s 0)))] ?_
  refine Wl.dn 4 (Wc.seq (Wc.seq (Wc.w0 [(33,(.bool (decide (z0 10 s 0<0))))] ?_)))
  refine Wc.cq (p:=z0 10 s 0<0) (fun c1=>?_) (fun c1=>?_)
  ·refine Wc.exit (z8.out rfl ?_)
   refine z8.here (Wc.enter (Wl.bn0 0 2 [(0,(.func (.yield 5) [] [])),(1,(.ptr 2 0 0)),(2,(.ptr 1 0 0)),(3,(.ptr 3 0 0)),(7,(.int .i64 (z0 10 s 0))),(33,(.bool (decide (z0 10 s 0<0)))),(49,(.func (.yield 5) [] [])),(50,(.str s))] (hp [.row 0 41 1 0 (some 1) [.nils],.row 0 9 1 0 (some 1) [(.str s)],.row 0 9 1 0 (some 1) [(.str [10])],.row 0 3 1 0 (some 1) [(.int .i64 0)],.defs,.loop .ready none 27 13 tm1 [7] (rAs Tryd.prog 27 0) (rBd Tryd.prog 27 0) 4]) ?_))
   refine Wl.yield (b:=(base 71 52)) (h1:=(hp [.row 0 41 1 0 (some 1) [.nils],.row 0 9 1 0 (some 1) [(.str s)],.row 0 9 1 0 (some 1) [(.str [10])],.row 0 3 1 0 (some 1) [(.int .i64 0)],.defs,.loop .ready none 27 13 tm1 [7] (rAs Tryd.prog 27 0) (rBd Tryd.prog 27 0) 4])) (l:=5) (args:=[(.str s)]) (d:=(some 51)) (st:=.ready) (pd0:=none) (fn:=27) (n:=13) (tm:=tm1) (ps:=[7]) (ag:=(rAs Tryd.prog 27 0)) (bd:=(rBd Tryd.prog 27 0)) (dd:=4) 2 [0,2,3,6,7] [(0,(.str s)),(2,.nils),(3,(.ptr 0 0 0)),(6,(.func (.func 71) [] [(.ptr 2 0 0),(.ptr 1 0 0),(.ptr 3 0 0)])),(7,(.str s))] hT2 (by kernel_rfl) (by kernel_rfl) (by kernel_rfl) ?_
   refine Wc.wn0 [(0,(.str s)),(2,.nils),(3,(.ptr 0 0 0)),(4,(.str s)),(6,(.func (.func 71) [] [(.ptr 2 0 0),(.ptr 1 0 0),(.ptr 3 0 0)])),(7,(.str s))] (hp [.row 0 41 1 0 (some 1) [.nils],.row 0 9 1 0 (some 1) [(.str s)],.row 0 9 1 0 (some 1) [(.str [10])],.row 0 3 1 0 (some 1) [(.int .i64 0)],.defs,.loop .ready none 27 13 tm1 [7] (rAs Tryd.prog 27 0) (rBd Tryd.prog 27 0) 4]) ?_
   refine qj8.mk none (by kernel_rfl) ?_
   refine Wc.block (Wc.wn [(0,(.str s)),(2,.nils),(3,(.ptr 0 0 0)),(4,(.str s)),(6,(.func (.func 71) [] [(.ptr 2 0 0),(.ptr 1 0 0),(.ptr 3 0 0)])),(7,(.str s))] (hp [.row 0 41 1 0 (some 1) [(.sl 6 0 0 1 none)],.row 0 9 1 0 (some 1) [(.str s)],.row 0 9 1 0 (some 1) [(.str [10])],.row 0 3 1 0 (some 1) [(.int .i64 0)],.defs,.loop .busy none 27 13 tm1 [7] (rAs Tryd.prog 27 0) (rBd Tryd.prog 27 0) 4,.row 0 9 1 0 none [(.str s)]]) [(([V.str s]≠[])∧((1≤(1099511627776:Nat))∧(1*16≤(1099511627776:Nat))))] (.cons (by simp) .nil) ?_)
   refine yEnd.mk none (by kernel_rfl) ?_
   refine qg4.mk [0,1,2,3,7,33] [(0,(.func (.yield 5) [] [])),(1,(.ptr 2 0 0)),(2,(.ptr 1 0 0)),(3,(.ptr 3 0 0)),(7,(.int .i64 (z0 10 s 0))),(33,(.bool (decide (z0 10 s 0<0))))] (by kernel_rfl) ?_
   refine Wl.dn 3 ?_
   refine retX.mk (.tup []) ⟨rfl,rfl⟩ (by kernel_rfl) ?_
   refine rEnd.mk .ready tm1 (by kernel_rfl) (fun e=>by cases e) ?_
   refine Wc.seq (Wc.wn0 [(0,(.str s)),(2,(.sl 6 0 0 1 none)),(3,(.ptr 0 0 0)),(6,(.func (.func 71) [] [(.ptr 2 0 0),(.ptr 1 0 0),(.ptr 3 0 0)]))] (hp [.row 0 41 1 0 (some 1) [(.sl 6 0 0 1 none)],.row 0 9 1 0 (some 1) [(.str s)],.row 0 9 1 0 (some 1) [(.str [10])],.row 0 3 1 0 (some 1) [(.int .i64 0)],.defs,.loop .exhausted none 27 13 tm1 [7] (rAs Tryd.prog 27 0) (rBd Tryd.prog 27 0) 4,.row 0 9 1 0 none [(.str s)]]) ?_)
   refine Wc.ret ?_
   refine retX.marks (hp [.row 0 41 1 0 (some 1) [(.sl 6 0 0 1 none)],.row 0 9 1 0 (some 1) [(.str s)],.row 0 9 1 0 (some 1) [(.str [10])],.row 0 3 1 0 (some 1) [(.int .i64 0)],.dead,.loop .exhausted none 27 13 tm1 [7] (rAs Tryd.prog 27 0) (rBd Tryd.prog 27 0) 4,.row 0 9 1 0 none [(.str s)]]) (.sl 6 0 0 1 none) rfl (by kernel_rfl) (by kernel_rfl) ?_
   rw [z41 s (by assumption)];rfl
  refine Wc.skip (Wc.seq ?_)
  let v1:V:=(.str (List.take (Int.toNat (z0 10 s 0+0)) s))
  refine Wc.w [(8,v1)] [(i64r (z0 10 s (0:Nat)+0)),(((0:Int)≤z0 10 s (0:Nat)+0)∧(z0 10 s (0:Nat)+0≤(List.length s:Int)))] (.cons (by omega) (.cons (by omega) .nil)) ?_
  refine Wc.seq (Wc.seq (Wc.enter (Wl.b0 0 2 [(39,(.func (.yield 5) [] [])),(40,v1)] ?_)))
  let v2:Obj:=.row 0 9 1 0 (some 1) [(.str s)]
  let v3:Obj:=.row 0 9 1 0 (some 1) [(.str [10])]
  let v4:Obj:=.row 0 3 1 0 (some 1) [(.int .i64 0)]
  let v5:Obj:=.loop .ready none 27 13 tm1 [7] (rAs Tryd.prog 27 0) (rBd Tryd.prog 27 0) 4
  let v6:Heap:=(hp [.row 0 41 1 0 (some 1) [.nils],v2,v3,v4,.defs,v5])
  let v7:V:=(.func (.func 71) [] [(.ptr 2 0 0),(.ptr 1 0 0),(.ptr 3 0 0)])
  refine Wl.yield (b:=(base 71 52)) (h1:=v6) (l:=5) (args:=[v1]) (d:=(some 41)) (st:=.ready) (pd0:=none) (fn:=27) (n:=13) (tm:=tm1) (ps:=[7]) (ag:=(rAs Tryd.prog 27 0)) (bd:=(rBd Tryd.prog 27 0)) (dd:=4) 2 [0,2,3,6,7] [(0,(.str s)),(2,.nils),(3,(.ptr 0 0 0)),(6,v7),(7,v1)] hT2 (by kernel_rfl) (by kernel_rfl) (by kernel_rfl) ?_
  refine Wc.wn0 [(0,(.str s)),(2,.nils),(3,(.ptr 0 0 0)),(4,v1),(6,v7),(7,v1)] v6 ?_
  refine qj8.mk none (by kernel_rfl) ?_
  refine Wc.block ?_
  let v8:Obj:=.row 0 41 1 0 (some 1) [(.sl 6 0 0 1 none)]
  let v9:Obj:=.row 0 9 1 0 none [v1]
  refine Wc.wn [(0,(.str s)),(2,.nils),(3,(.ptr 0 0 0)),(4,v1),(6,v7),(7,v1)] (hp [v8,v2,v3,v4,.defs,.loop .busy none 27 13 tm1 [7] (rAs Tryd.prog 27 0) (rBd Tryd.prog 27 0) 4,v9]) [(([V.str (List.take (Int.toNat (z0 (10:UInt8) s (0:Nat)+0)) s)]≠[])∧((1≤(1099511627776:Nat))∧(1*16≤(1099511627776:Nat))))] (.cons (by simp) .nil) ?_
  refine yEnd.mk none (by kernel_rfl) ?_
  refine qg4.mk [0,1,2,3,7,8,33,41] [(0,(.func (.yield 5) [] [])),(1,(.ptr 2 0 0)),(2,(.ptr 1 0 0)),(3,(.ptr 3 0 0)),(7,(.int .i64 (z0 10 s 0))),(8,(.str (List.take (Int.toNat (z0 10 s 0+0)) s))),(33,(.bool (decide (z0 10 s 0<0)))),(41,(.bool true))] (by kernel_rfl) ?_
  refine Wl.bn0 3 4 [(0,(.func (.yield 5) [] [])),(1,(.ptr 2 0 0)),(2,(.ptr 1 0 0)),(3,(.ptr 3 0 0)),(7,(.int .i64 (z0 10 s 0))),(8,v1),(33,(.bool (decide (z0 10 s 0<0)))),(42,(.bool false))] (hp [v8,v2,v3,v4,.defs,v5,v9]) ?_
  refine Wl.dn 4 (Wc.cf (Wc.skip (Wc.wn [] (hp [v8,.row 0 9 1 0 (some 1) [(.str (List.drop (Int.toNat (z0 10 s 0+1)) s))],v3,v4,.defs,v5,v9]) [(i64r (z0 10 s (0:Nat)+1)),(((0:Int)≤z0 10 s (0:Nat)+1)∧(z0 10 s (0:Nat)+1≤(List.length s:Int)))] (.cons (by omega) (.cons (by omega) .nil)) ?_)))
  have hn:=z08 s (by assumption)
  exact ⟨some ([s.take (z0 10 s 0+0).toNat],s.drop (z0 10 s 0+1).toNat),Le.on [0,1,2,3] (by kernel_rfl),by kernel_rfl,⟨by simp,hn,by simp;omega⟩,by simp;omega⟩
 simp only at hI ⊢
 obtain ⟨hd,hl,hr⟩:=hI
 have hf:=qp0 r
 have hd1:0<d.length:=List.length_pos_iff.2 hd
 refine Wc.block (Wc.seq (Wc.enter (Wl.bn0 0 2 [(0,(.func (.yield 5) [] [])),(1,(.ptr 2 0 0)),(2,(.ptr 1 0 0)),(3,(.ptr 3 0 0)),(29,(.str r)),(30,(.str [10]))] (hp [.row 0 41 1 0 (some 1) [(.sl 6 (List.length d-1) 0 (List.length d) none)],.row 0 9 1 0 (some 1) [(.str r)],.row 0 9 1 0 (some 1) [(.str [10])],.row 0 3 1 0 (some 1) [(.int .i64 0)],.defs,.loop .ready none 27 13 tm1 [7] (rAs Tryd.prog 27 0) (rBd Tryd.prog 27 0) 4,.row (List.length d-1) 9 1 0 none (List.map V.str d)]) ?_)))
 refine Wl.c 2 [(31,(.int .i64 (z0 10 r 0)))] (@Go.AM.c29 (r)) ?_
 refine Wl.b0 3 4 [(7,(.int .i64 (z0 10 r 0)))] ?_
 refine Wl.dn 4 (Wc.seq (Wc.seq (Wc.w0 [(33,(.bool (decide (z0 10 r 0<0))))] ?_)))
 refine Wc.cq (p:=z0 10 r 0<0) (fun c1=>?_) (fun c1=>?_)
 ·refine Wc.exit (z8.out rfl ?_)
  refine z8.here (Wc.enter (Wl.bn0 0 2 [(0,(.func (.yield 5) [] [])),(1,(.ptr 2 0 0)),(2,(.ptr 1 0 0)),(3,(.ptr 3 0 0)),(7,(.int .i64 (z0 10 r 0))),(33,(.bool (decide (z0 10 r 0<0)))),(49,(.func (.yield 5) [] [])),(50,(.str r))] (hp [.row 0 41 1 0 (some 1) [(.sl 6 (List.length d-1) 0 (List.length d) none)],.row 0 9 1 0 (some 1) [(.str r)],.row 0 9 1 0 (some 1) [(.str [10])],.row 0 3 1 0 (some 1) [(.int .i64 0)],.defs,.loop .ready none 27 13 tm1 [7] (rAs Tryd.prog 27 0) (rBd Tryd.prog 27 0) 4,.row (List.length d-1) 9 1 0 none (List.map V.str d)]) ?_))
  refine Wl.yield (b:=(base 71 52)) (h1:=(hp [.row 0 41 1 0 (some 1) [(.sl 6 (List.length d-1) 0 (List.length d) none)],.row 0 9 1 0 (some 1) [(.str r)],.row 0 9 1 0 (some 1) [(.str [10])],.row 0 3 1 0 (some 1) [(.int .i64 0)],.defs,.loop .ready none 27 13 tm1 [7] (rAs Tryd.prog 27 0) (rBd Tryd.prog 27 0) 4,.row (List.length d-1) 9 1 0 none (List.map V.str d)])) (l:=5) (args:=[(.str r)]) (d:=(some 51)) (st:=.ready) (pd0:=none) (fn:=27) (n:=13) (tm:=tm1) (ps:=[7]) (ag:=(rAs Tryd.prog 27 0)) (bd:=(rBd Tryd.prog 27 0)) (dd:=4) 2 [0,2,3,6,7] [(0,(.str s)),(2,.nils),(3,(.ptr 0 0 0)),(6,(.func (.func 71) [] [(.ptr 2 0 0),(.ptr 1 0 0),(.ptr 3 0 0)])),(7,(.str r))] hT2 (by kernel_rfl) (by kernel_rfl) (by kernel_rfl) ?_
  refine Wc.wn0 [(0,(.str s)),(2,.nils),(3,(.ptr 0 0 0)),(4,(.str r)),(6,(.func (.func 71) [] [(.ptr 2 0 0),(.ptr 1 0 0),(.ptr 3 0 0)])),(7,(.str r))] (hp [.row 0 41 1 0 (some 1) [(.sl 6 (List.length d-1) 0 (List.length d) none)],.row 0 9 1 0 (some 1) [(.str r)],.row 0 9 1 0 (some 1) [(.str [10])],.row 0 3 1 0 (some 1) [(.int .i64 0)],.defs,.loop .ready none 27 13 tm1 [7] (rAs Tryd.prog 27 0) (rBd Tryd.prog 27 0) 4,.row (List.length d-1) 9 1 0 none (List.map V.str d)]) ?_
  refine qj8.mk none (by kernel_rfl) ?_
  refine Wc.block (Wc.wn [(0,(.str s)),(2,.nils),(3,(.ptr 0 0 0)),(4,(.str r)),(6,(.func (.func 71) [] [(.ptr 2 0 0),(.ptr 1 0 0),(.ptr 3 0 0)])),(7,(.str r))] (hp [.row 0 41 1 0 (some 1) [(.sl 6 (Nat.succ (List.length d-1)) 0 (List.length d+1) none)],.row 0 9 1 0 (some 1) [(.str r)],.row 0 9 1 0 (some 1) [(.str [10])],.row 0 3 1 0 (some 1) [(.int .i64 0)],.defs,.loop .busy none 27 13 tm1 [7] (rAs Tryd.prog 27 0) (rBd Tryd.prog 27 0) 4,.row (Nat.succ (List.length d-1)) 9 1 0 none (List.map V.str d++[V.str r])]) [((List.length d-1=List.length d-1)∧(([V.str r]≠[])∧((List.length d=List.length (List.map V.str d))∧(((0:Nat)≤List.length d)∧((List.length d+1≤(1099511627776:Nat))∧((List.length d+1)*16≤(1099511627776:Nat)))))))] (.cons (by (simp;omega)) .nil) ?_)
  refine yEnd.mk none (by kernel_rfl) ?_
  refine qg4.mk [0,1,2,3,7,33] [(0,(.func (.yield 5) [] [])),(1,(.ptr 2 0 0)),(2,(.ptr 1 0 0)),(3,(.ptr 3 0 0)),(7,(.int .i64 (z0 10 r 0))),(33,(.bool (decide (z0 10 r 0<0))))] (by kernel_rfl) ?_
  refine Wl.dn 3 ?_
  refine retX.mk (.tup []) ⟨rfl,rfl⟩ (by kernel_rfl) ?_
  refine rEnd.mk .ready tm1 (by kernel_rfl) (fun e=>by cases e) ?_
  refine Wc.seq (Wc.wn0 [(0,(.str s)),(2,(.sl 6 (Nat.succ (List.length d-1)) 0 (List.length d+1) none)),(3,(.ptr 0 0 0)),(6,(.func (.func 71) [] [(.ptr 2 0 0),(.ptr 1 0 0),(.ptr 3 0 0)]))] (hp [.row 0 41 1 0 (some 1) [(.sl 6 (Nat.succ (List.length d-1)) 0 (List.length d+1) none)],.row 0 9 1 0 (some 1) [(.str r)],.row 0 9 1 0 (some 1) [(.str [10])],.row 0 3 1 0 (some 1) [(.int .i64 0)],.defs,.loop .exhausted none 27 13 tm1 [7] (rAs Tryd.prog 27 0) (rBd Tryd.prog 27 0) 4,.row (Nat.succ (List.length d-1)) 9 1 0 none (List.map V.str d++[V.str r])]) ?_)
  refine Wc.ret ?_
  refine retX.marks (hp [.row 0 41 1 0 (some 1) [(.sl 6 (Nat.succ (List.length d-1)) 0 (List.length d+1) none)],.row 0 9 1 0 (some 1) [(.str r)],.row 0 9 1 0 (some 1) [(.str [10])],.row 0 3 1 0 (some 1) [(.int .i64 0)],.dead,.loop .exhausted none 27 13 tm1 [7] (rAs Tryd.prog 27 0) (rBd Tryd.prog 27 0) 4,.row (Nat.succ (List.length d-1)) 9 1 0 none (List.map V.str d++[V.str r])]) (.sl 6 (Nat.succ (List.length d-1)) 0 (List.length d+1) none) rfl (by kernel_rfl) (by kernel_rfl) ?_
  have e:(d++[r]).map V.str=d.map V.str++[V.str r]:=by simp
  rw [hl,z41 r (by assumption)]
  exact q94 (f:=V.str) (fun _ _ _=>rfl) (l:=d++[r]) (by kernel_rfl) e.symm (by simp)
 refine Wc.skip (Wc.seq (Wc.w [(8,(.str (List.take (Int.toNat (z0 10 r 0+0)) r)))] [(i64r (z0 10 r (0:Nat)+0)),(((0:Int)≤z0 10 r (0:Nat)+0)∧(z0 10 r (0:Nat)+0≤(List.length r:Int)))] (.cons (by omega) (.cons (by omega) .nil)) ?_))
 refine Wc.seq (Wc.seq (Wc.enter (Wl.b0 0 2 [(39,(.func (.yield 5) [] [])),(40,(.str (List.take (Int.toNat (z0 10 r 0+0)) r)))] ?_)))
 refine Wl.yield (b:=(base 71 52)) (h1:=(hp [.row 0 41 1 0 (some 1) [(.sl 6 (List.length d-1) 0 (List.length d) none)],.row 0 9 1 0 (some 1) [(.str r)],.row 0 9 1 0 (some 1) [(.str [10])],.row 0 3 1 0 (some 1) [(.int .i64 0)],.defs,.loop .ready none 27 13 tm1 [7] (rAs Tryd.prog 27 0) (rBd Tryd.prog 27 0) 4,.row (List.length d-1) 9 1 0 none (List.map V.str d)])) (l:=5) (args:=[(.str (List.take (Int.toNat (z0 10 r 0+0)) r))]) (d:=(some 41)) (st:=.ready) (pd0:=none) (fn:=27) (n:=13) (tm:=tm1) (ps:=[7]) (ag:=(rAs Tryd.prog 27 0)) (bd:=(rBd Tryd.prog 27 0)) (dd:=4) 2 [0,2,3,6,7] [(0,(.str s)),(2,.nils),(3,(.ptr 0 0 0)),(6,(.func (.func 71) [] [(.ptr 2 0 0),(.ptr 1 0 0),(.ptr 3 0 0)])),(7,(.str (List.take (Int.toNat (z0 10 r 0+0)) r)))] hT2 (by kernel_rfl) (by kernel_rfl) (by kernel_rfl) ?_
 refine Wc.wn0 [(0,(.str s)),(2,.nils),(3,(.ptr 0 0 0)),(4,(.str (List.take (Int.toNat (z0 10 r 0+0)) r))),(6,(.func (.func 71) [] [(.ptr 2 0 0),(.ptr 1 0 0),(.ptr 3 0 0)])),(7,(.str (List.take (Int.toNat (z0 10 r 0+0)) r)))] (hp [.row 0 41 1 0 (some 1) [(.sl 6 (List.length d-1) 0 (List.length d) none)],.row 0 9 1 0 (some 1) [(.str r)],.row 0 9 1 0 (some 1) [(.str [10])],.row 0 3 1 0 (some 1) [(.int .i64 0)],.defs,.loop .ready none 27 13 tm1 [7] (rAs Tryd.prog 27 0) (rBd Tryd.prog 27 0) 4,.row (List.length d-1) 9 1 0 none (List.map V.str d)]) ?_
 refine qj8.mk none (by kernel_rfl) ?_
 refine Wc.block (Wc.wn [(0,(.str s)),(2,.nils),(3,(.ptr 0 0 0)),(4,(.str (List.take (Int.toNat (z0 10 r 0+0)) r))),(6,(.func (.func 71) [] [(.ptr 2 0 0),(.ptr 1 0 0),(.ptr 3 0 0)])),(7,(.str (List.take (Int.toNat (z0 10 r 0+0)) r)))] (hp [.row 0 41 1 0 (some 1) [(.sl 6 (Nat.succ (List.length d-1)) 0 (List.length d+1) none)],.row 0 9 1 0 (some 1) [(.str r)],.row 0 9 1 0 (some 1) [(.str [10])],.row 0 3 1 0 (some 1) [(.int .i64 0)],.defs,.loop .busy none 27 13 tm1 [7] (rAs Tryd.prog 27 0) (rBd Tryd.prog 27 0) 4,.row (Nat.succ (List.length d-1)) 9 1 0 none (List.map V.str d++[V.str (List.take (Int.toNat (z0 10 r 0+0)) r)])]) [((List.length d-1=List.length d-1)∧(([V.str (List.take (Int.toNat (z0 (10:UInt8) r (0:Nat)+0)) r)]≠[])∧((List.length d=List.length (List.map V.str d))∧(((0:Nat)≤List.length d)∧((List.length d+1≤(1099511627776:Nat))∧((List.length d+1)*16≤(1099511627776:Nat)))))))] (.cons (by (simp;omega)) .nil) ?_)
 refine yEnd.mk none (by kernel_rfl) ?_
 refine qg4.mk [0,1,2,3,7,8,33,41] [(0,(.func (.yield 5) [] [])),(1,(.ptr 2 0 0)),(2,(.ptr 1 0 0)),(3,(.ptr 3 0 0)),(7,(.int .i64 (z0 10 r 0))),(8,(.str (List.take (Int.toNat (z0 10 r 0+0)) r))),(33,(.bool (decide (z0 10 r 0<0)))),(41,(.bool true))] (by kernel_rfl) ?_
 refine Wl.bn0 3 4 [(0,(.func (.yield 5) [] [])),(1,(.ptr 2 0 0)),(2,(.ptr 1 0 0)),(3,(.ptr 3 0 0)),(7,(.int .i64 (z0 10 r 0))),(8,(.str (List.take (Int.toNat (z0 10 r 0+0)) r))),(33,(.bool (decide (z0 10 r 0<0)))),(42,(.bool false))] (hp [.row 0 41 1 0 (some 1) [(.sl 6 (Nat.succ (List.length d-1)) 0 (List.length d+1) none)],.row 0 9 1 0 (some 1) [(.str r)],.row 0 9 1 0 (some 1) [(.str [10])],.row 0 3 1 0 (some 1) [(.int .i64 0)],.defs,.loop .ready none 27 13 tm1 [7] (rAs Tryd.prog 27 0) (rBd Tryd.prog 27 0) 4,.row (Nat.succ (List.length d-1)) 9 1 0 none (List.map V.str d++[V.str (List.take (Int.toNat (z0 10 r 0+0)) r)])]) ?_
 refine Wl.dn 4 (Wc.cf (Wc.skip (Wc.wn [] (hp [.row 0 41 1 0 (some 1) [(.sl 6 (Nat.succ (List.length d-1)) 0 (List.length d+1) none)],.row 0 9 1 0 (some 1) [(.str (List.drop (Int.toNat (z0 10 r 0+1)) r))],.row 0 9 1 0 (some 1) [(.str [10])],.row 0 3 1 0 (some 1) [(.int .i64 0)],.defs,.loop .ready none 27 13 tm1 [7] (rAs Tryd.prog 27 0) (rBd Tryd.prog 27 0) 4,.row (Nat.succ (List.length d-1)) 9 1 0 none (List.map V.str d++[V.str (List.take (Int.toNat (z0 10 r 0+0)) r)])]) [(i64r (z0 10 r (0:Nat)+1)),(((0:Int)≤z0 10 r (0:Nat)+1)∧(z0 10 r (0:Nat)+1≤(List.length r:Int)))] (.cons (by omega) (.cons (by omega) .nil)) ?_)))
 have hn:=z08 r (by assumption)
 have e1:(d++[r.take (z0 10 r 0+0).toNat]).length=d.length+1:=by simp
 have e2:(d++[r.take (z0 10 r 0+0).toNat]).map V.str=d.map V.str++[V.str (r.take (z0 10 r 0+0).toNat)]:=by simp
 refine ⟨some (d++[r.take (z0 10 r 0+0).toNat],r.drop (z0 10 r 0+1).toNat),Le.on [0,1,2,3] (by kernel_rfl),?_,⟨by simp,by rw [hl,hn];simp,by simp;omega⟩,by simp;omega⟩
 simp only
 rw [e1,e2,show d.length+1-1=(d.length-1).succ by omega] <;> kernel_rfl
theorem zg6 {s:List UInt8} {i f:Nat} (hi:i<s.length) (hf:f≤i) (hb:q8 s (i:Int)=10):s.drop f=(s.take i).drop f++10::s.drop (i+1):=by
 have e:s.drop i=10::s.drop (i+1):=by rw [List.drop_eq_getElem_cons hi,(qn4 hi).1 hb]
 conv=>lhs;rw [← List.take_append_drop i s]
 rw [List.drop_append_of_le_length (by rw [List.length_take];omega),e]
theorem x85 {s:List UInt8} {i f:Nat} (hi:i<s.length) (hf:f≤i) (hb:¬ q8 s (i:Int)=10) (h:(10:UInt8)∉(s.take i).drop f):(10:UInt8)∉(s.take (i+1)).drop f:=by
 rw [List.take_succ_eq_append_getElem hi,List.drop_append_of_le_length (by rw [List.length_take];omega)]
 intro hm
 rcases List.mem_append.1 hm with q | q
 ·exact h q
 ·exact hb ((qn4 hi).2 (List.mem_singleton.1 q).symm)
theorem c25 (s:List UInt8) (hs:s.length≤1000):Cp Tryd.prog EU 29 [.str s] (.fsl 9 1 0 ((z7 s).map .str) none):=by
 refine Cp.body (fn:=Tryd.f29) Tryd.func29 rfl (by kernel_rfl) ?_
 refine Wc.seq (Wc.wn0 [(0,(.str s)),(2,.nils)] Heap.empty ?_)
 refine Wc.seq (Wc.w0 [(3,.nils)] ?_)
 refine Wc.seq (Wc.w0 [(4,(.int .i64 0))] ?_)
 refine Wc.seq (Wc.seq (Wc.w0 [(5,(.int .i64 0))] ?_))
 refine Wc.block ?_
 refine Wc.loop (α:=Option (List (List UInt8)×Nat)×Nat) (fun a=>match a.1 with
   | none=>(base 29 32).on [(0,(.str (s))),(2,.nils),(3,.nils),(4,(.int .i64 0)),(5,(.int .i64 (a.2:Int)))]
   | some (d,f)=>(base 29 32).on [(0,(.str (s))),(2,.nils),(3,.sl 0 (d.length-1) 0 d.length none),(4,(.int .i64 (f:Int))),(5,(.int .i64 (a.2:Int)))])
  (fun a=>match a.1 with
   | none=>Heap.empty
   | some (d,_)=>hp [.row (d.length-1) 9 1 0 none (d.map .str)])
  (fun a=>match a.1 with
   | none=>a.2≤s.length∧(10:UInt8)∉s.take a.2
   | some (d,f)=>d≠[]∧d.length≤a.2∧a.2≤s.length+1∧((a.2≤s.length∧f≤a.2∧z7 s=d++z7 (s.drop f)∧(10:UInt8)∉(s.take a.2).drop f)∨(a.2=s.length+1∧z7 s=d)))
  (fun a=>s.length+1-a.2) (none,0) (Le.on [0,2,3,4,5] (by kernel_rfl)) (by kernel_rfl) ⟨Nat.zero_le _,by simp⟩ ?_
 rintro ⟨_ | ⟨d,f⟩,i⟩ hI
 ·simp only at hI ⊢
  obtain ⟨hi,hno⟩:=hI
  refine Wc.seq (Wc.seq (Wc.wn0 [(0,(.str s)),(2,.nils),(3,.nils),(4,(.int .i64 0)),(5,(.int .i64 (i:Int))),(9,(.bool (decide ((i:Int)≤(List.length s:Int)))))] Heap.empty ?_))
  refine Wc.cq (p:=(i:Int)≤(List.length s:Int)) (fun c1=>?_) (fun c1=>absurd (show (i:Int)≤(List.length s:Int) from (by omega)) c1)
  refine Wc.skip (Wc.seq (Wc.block (Wc.seq (Wc.enter (Wl.b0 0 5 [(16,(.bool (decide ((i:Int)=(List.length s:Int)))))] ?_)))))
  refine Wl.join (b:=(base 29 32)) (p:=(i:Int)=(List.length s:Int)) [(0,(.str s)),(2,.nils),(3,.nils),(4,(.int .i64 0)),(5,(.int .i64 (i:Int))),(9,(.bool (decide ((i:Int)≤(List.length s:Int))))),(21,(.bool (decide (((i:Int)=(List.length s:Int))∨(q8 s (i:Int)=10)))))] Heap.empty (fun c2=>?_) (fun c2=>?_) ?_
  ·refine Wl.k 16 (.bool (decide ((i:Int)=(List.length s:Int)))) (.bool true) (by have e:=decide_eq_true c2;simp only [e] <;> rfl) ?_
   refine Wl.b0 5 10 [(21,(.bool true))] ?_
   refine Wl.dn 10 ?_
   exact ⟨Le.on' [0,2,3,4,5,9,21] [(0,(.str (s))),(2,.nils),(3,.nils),(4,(.int .i64 0)),(5,(.int .i64 ((↑i:Int)))),(9,(.bool (decide ((↑i:Int)≤(↑(List.length s):Int))))),(21,(.bool true))] (by kernel_rfl) (by rw [xw5 c2] <;> rfl),by kernel_rfl⟩
  ·refine Wl.k 16 (.bool (decide ((i:Int)=(List.length s:Int)))) (.bool false) (by have e:=decide_eq_false c2;simp only [e] <;> rfl) ?_
   refine Wl.bs 5 10 [(21,(.bool (decide (q8 s (i:Int)=10))))] [((0≤(i:Int))∧((i:Int)<(List.length s:Int)))] (.cons (by omega) .nil) ?_
   refine Wl.dn 10 ?_
   exact ⟨Le.on' [0,2,3,4,5,9,21] [(0,(.str (s))),(2,.nils),(3,.nils),(4,(.int .i64 0)),(5,(.int .i64 ((↑i:Int)))),(9,(.bool (decide ((↑i:Int)≤(↑(List.length s):Int))))),(21,(.bool (decide (q8 s (↑i:Int)=10))))] (by kernel_rfl) (by rw [xk6 c2] <;> rfl),by kernel_rfl⟩
  refine Wc.cq (p:=(i:Int)=(List.length s:Int)∨q8 s (i:Int)=10) (fun c3=>?_) (fun c3=>?_)
  ·refine Wc.seq (Wc.wn [(3,(.sl 0 0 0 1 none)),(21,(.bool (decide ((i:Int)=(List.length s:Int)∨q8 s (i:Int)=10))))] (hp [.row 0 9 1 0 none [(.str (List.drop 0 (List.take i s)))]]) [(((0:Int)≤0)∧(((0:Int)≤(i:Int))∧((i:Int)≤(List.length s:Int)))),(([V.str (List.drop (0:Nat) (List.take i s))]≠[])∧((1≤(1099511627776:Nat))∧(1*16≤(1099511627776:Nat))))] (.cons (by omega) (.cons (by simp) .nil)) ?_)
   refine Wc.w [(4,(.int .i64 ((i:Int)+1)))] [(i64r ((i:Int)+1))] (.cons (by omega) .nil) ?_
   refine Wc.w [(5,(.int .i64 ((i:Int)+1)))] [(i64r ((i:Int)+1))] (.cons (by omega) .nil) ?_
   have hb:(i:Int)=(s.length:Int)∨q8 s (i:Int)=10:=by assumption
   refine ⟨(some ([s.take i],i+1),i+1),Le.on [0,2,3,4,5] (by kernel_rfl),by kernel_rfl,⟨by simp,by simp,by simp only;omega,?_⟩,by simp only;omega⟩
   simp only
   rcases Nat.lt_or_ge i s.length with hlt | hge
   ·have hb':q8 s (i:Int)=10:=hb.resolve_left (by omega)
    refine .inl ⟨by omega,Nat.le_refl _,?_,by simp⟩
    have e:=zg6 (f:=0) hlt (Nat.zero_le _) hb'
    rw [List.drop_zero,List.drop_zero] at e
    conv=>lhs;rw [e]
    exact qv0 _ _ hno
   have hall:s.take i=s:=List.take_of_length_le hge
   rw [hall] at hno ⊢
   exact .inr ⟨by omega,qu7 s hno⟩
  refine Wc.skip (Wc.w [(5,(.int .i64 ((i:Int)+1))),(21,(.bool (decide ((i:Int)=(List.length s:Int)∨q8 s (i:Int)=10))))] [(i64r ((i:Int)+1))] (.cons (by omega) .nil) ?_)
  have hb:¬ ((i:Int)=(s.length:Int)∨q8 s (i:Int)=10):=by assumption
  have hlt:i<s.length:=by omega
  exact ⟨(none,i+1),Le.on [0,2,3,4,5] (by kernel_rfl),rfl,⟨hlt,x85 (f:=0) hlt (Nat.zero_le _) (fun e=>hb (.inr e)) hno⟩,by simp only;omega⟩
 simp only at hI ⊢
 obtain ⟨hd,hdl,hi,hI⟩:=hI
 have hd1:0<d.length:=List.length_pos_iff.2 hd
 refine Wc.seq (Wc.seq (Wc.wn0 [(0,(.str s)),(2,.nils),(3,(.sl 0 (List.length d-1) 0 (List.length d) none)),(4,(.int .i64 (f:Int))),(5,(.int .i64 (i:Int))),(9,(.bool (decide ((i:Int)≤(List.length s:Int)))))] (hp [.row (List.length d-1) 9 1 0 none (List.map V.str d)]) ?_))
 refine Wc.cq (p:=(i:Int)≤(List.length s:Int)) (fun c1=>?_) (fun c1=>?_)
 ·refine Wc.skip (Wc.seq (Wc.block (Wc.seq (Wc.enter (Wl.b0 0 5 [(16,(.bool (decide ((i:Int)=(List.length s:Int)))))] ?_)))))
  refine Wl.join (b:=(base 29 32)) (p:=(i:Int)=(List.length s:Int)) [(0,(.str s)),(2,.nils),(3,(.sl 0 (List.length d-1) 0 (List.length d) none)),(4,(.int .i64 (f:Int))),(5,(.int .i64 (i:Int))),(9,(.bool (decide ((i:Int)≤(List.length s:Int))))),(21,(.bool (decide (((i:Int)=(List.length s:Int))∨(q8 s (i:Int)=10)))))] (hp [.row (List.length d-1) 9 1 0 none (List.map V.str d)]) (fun c2=>?_) (fun c2=>?_) ?_
  ·refine Wl.k 16 (.bool (decide ((i:Int)=(List.length s:Int)))) (.bool true) (by have e:=decide_eq_true c2;simp only [e] <;> rfl) ?_
   refine Wl.b0 5 10 [(21,(.bool true))] ?_
   refine Wl.dn 10 ?_
   exact ⟨Le.on' [0,2,3,4,5,9,21] [(0,(.str (s))),(2,.nils),(3,(.sl 0 (List.length d-1) 0 (List.length d) none)),(4,(.int .i64 ((↑f:Int)))),(5,(.int .i64 ((↑i:Int)))),(9,(.bool (decide ((↑i:Int)≤(↑(List.length s):Int))))),(21,(.bool true))] (by kernel_rfl) (by rw [xw5 c2] <;> rfl),by kernel_rfl⟩
  ·refine Wl.k 16 (.bool (decide ((i:Int)=(List.length s:Int)))) (.bool false) (by have e:=decide_eq_false c2;simp only [e] <;> rfl) ?_
   refine Wl.bs 5 10 [(21,(.bool (decide (q8 s (i:Int)=10))))] [((0≤(i:Int))∧((i:Int)<(List.length s:Int)))] (.cons (by omega) .nil) ?_
   refine Wl.dn 10 ?_
   exact ⟨Le.on' [0,2,3,4,5,9,21] [(0,(.str (s))),(2,.nils),(3,(.sl 0 (List.length d-1) 0 (List.length d) none)),(4,(.int .i64 ((↑f:Int)))),(5,(.int .i64 ((↑i:Int)))),(9,(.bool (decide ((↑i:Int)≤(↑(List.length s):Int))))),(21,(.bool (decide (q8 s (↑i:Int)=10))))] (by kernel_rfl) (by rw [xk6 c2] <;> rfl),by kernel_rfl⟩
  refine Wc.cq (p:=(i:Int)=(List.length s:Int)∨q8 s (i:Int)=10) (fun c3=>?_) (fun c3=>?_)
  ·refine Wc.seq (Wc.wn [(3,(.sl 0 (Nat.succ (List.length d-1)) 0 (List.length d+1) none)),(21,(.bool (decide ((i:Int)=(List.length s:Int)∨q8 s (i:Int)=10))))] (hp [.row (Nat.succ (List.length d-1)) 9 1 0 none (List.map V.str d++[V.str (List.drop f (List.take i s))])]) [(((0:Int)≤(f:Int))∧(((f:Int)≤(i:Int))∧((i:Int)≤(List.length s:Int)))),((List.length d-1=List.length d-1)∧(([V.str (List.drop f (List.take i s))]≠[])∧((List.length d=List.length (List.map V.str d))∧(((0:Nat)≤List.length d)∧((List.length d+1≤(1099511627776:Nat))∧((List.length d+1)*16≤(1099511627776:Nat)))))))] (.cons (by omega) (.cons (by (simp;omega)) .nil)) ?_)
   refine Wc.w [(4,(.int .i64 ((i:Int)+1)))] [(i64r ((i:Int)+1))] (.cons (by omega) .nil) ?_
   refine Wc.w [(5,(.int .i64 ((i:Int)+1)))] [(i64r ((i:Int)+1))] (.cons (by omega) .nil) ?_
   have hb:(i:Int)=(s.length:Int)∨q8 s (i:Int)=10:=by assumption
   obtain ⟨h1,h2,h3,h4⟩:i≤s.length∧f≤i∧z7 s=d++z7 (s.drop f)∧(10:UInt8)∉(s.take i).drop f:=hI.resolve_right (by omega)
   have e1:(d++[(s.take i).drop f]).length=d.length+1:=by simp
   have e2:(d++[(s.take i).drop f]).map V.str=d.map V.str++[V.str ((s.take i).drop f)]:=by simp
   refine ⟨(some (d++[(s.take i).drop f],i+1),i+1),?_,?_,⟨by simp,by simp only;omega,by simp only;omega,?_⟩,by simp only;omega⟩
   ·simp only
    rw [e1,show d.length+1-1=(d.length-1).succ by omega]
    exact Le.on [0,2,3,4,5] (by kernel_rfl)
   ·simp only
    rw [e1,e2,show d.length+1-1=(d.length-1).succ by omega]
   simp only
   rcases Nat.lt_or_ge i s.length with hlt | hge
   ·have hb':q8 s (i:Int)=10:=hb.resolve_left (by omega)
    refine .inl ⟨by omega,Nat.le_refl _,?_,by simp⟩
    rw [h3,zg6 hlt h2 hb',qv0 _ _ h4];simp
   have hall:s.take i=s:=List.take_of_length_le hge
   rw [hall] at h4 ⊢
   exact .inr ⟨by omega,by rw [h3,qu7 _ h4]⟩
  refine Wc.skip (Wc.w [(5,(.int .i64 ((i:Int)+1))),(21,(.bool (decide ((i:Int)=(List.length s:Int)∨q8 s (i:Int)=10))))] [(i64r ((i:Int)+1))] (.cons (by omega) .nil) ?_)
  have hb:¬ ((i:Int)=(s.length:Int)∨q8 s (i:Int)=10):=by assumption
  have hlt:i<s.length:=by omega
  obtain ⟨h1,h2,h3,h4⟩:i≤s.length∧f≤i∧z7 s=d++z7 (s.drop f)∧(10:UInt8)∉(s.take i).drop f:=hI.resolve_right (by omega)
  exact ⟨(some (d,f),i+1),Le.on [0,2,3,4,5] (by kernel_rfl),rfl,⟨hd,by simp only;omega,by simp only;omega,.inl ⟨hlt,Nat.le_succ_of_le h2,h3,x85 hlt h2 (fun e=>hb (.inr e)) h4⟩⟩,by simp only;omega⟩
 refine Wc.exit (z8.here (Wc.seq (Wc.w0 [(2,(.sl 0 (List.length d-1) 0 (List.length d) none))] ?_)))
 refine Wc.ret ?_
 refine retX.mk (.sl 0 (List.length d-1) 0 (List.length d) none) ⟨rfl,rfl⟩ (by kernel_rfl) ?_
 obtain ⟨h1,h2⟩:i=s.length+1∧z7 s=d:=hI.resolve_left (by omega)
 rw [h2]
 exact q94 (f:=V.str) (fun _ _ _=>rfl) (l:=d) (by kernel_rfl) rfl rfl
end Go.AM
namespace Go.AM
open Go.Proofs
set_option maxRecDepth 100000
set_option maxHeartbeats 4000000
theorem cRFitsOne {d:Dc} {col w:Int} (hd:j7 d) (hs:szD d≤1000):Cp Tryd.prog EU 26 [encD d,.int .i64 col,.int .i64 w] (.bool (q38 d col w)):=by
 refine Cp.body (fn:=Tryd.f26) Tryd.func26 rfl (by kernel_rfl) ?_
 have hfl:=qf4 d
 have hwl:=q15 (q01 (x8 d))
 have hle:=qp0 (x8 d)
 have hfp:=@zd9 (x8 d)
 unfold q38
 by_cases hh:k8 d=true
 ·have hcf:Cp Tryd.prog EU 17 [encD d] (.tup [.str [],.bool false]):=by
   have:=x06 d (by omega) hd
   rw [if_pos hh,hh] at this;exact this
  rw [hh]
  refine Wc.seq ?_
  let v1:V:=(.agg [(.int .i64 (d.kind)),(.str (d.text)),(.int .i64 (d.n)),(.osl 4 (esD d))])
  refine Wc.wn0 [(0,v1),(1,(.int .i64 (col))),(2,(.int .i64 (w))),(3,(.ptr 0 0 0)),(6,(.bool false))] (hp [.row 0 26 4 0 (some 1) [v1]]) ?_
  refine Wc.seq (Wc.enter (Wl.b0 0 1 [(11,v1)] ?_))
  refine Wl.c 1 [(12,(.tup [(.str []),(.bool false)]))] (@hcf) ?_
  refine Wl.b0 2 7 [(7,(.str [])),(8,(.bool false))] ?_
  refine Wl.dn 7 (Wc.seq (Wc.enter (Wl.b0 0 1 [(15,(.str []))] ?_)))
  refine Wl.c 1 [(16,(.int .i64 (-1)))] (@Go.AM.cFeed ([]) (by simp)) ?_
  refine Wl.b0 2 3 [(9,(.int .i64 (-1)))] ?_
  refine Wl.dn 3 (Wc.seq (Wc.seq (Wc.w0 [(18,(.bool false))] ?_)))
  refine Wc.cf (Wc.skip (Wc.seq (Wc.w0 [] ?_)))
  refine Wc.ret ?_
  refine retX.mk (.bool false) ⟨rfl,rfl⟩ (by kernel_rfl) ?_
  kernel_rfl
 have hcf:Cp Tryd.prog EU 17 [encD d] (.tup [.str (x8 d),.bool true]):=by
  have:=x06 d (by omega) hd
  rw [if_neg hh,Bool.eq_false_iff.2 hh] at this;exact this
 rw [Bool.eq_false_iff.2 hh]
 refine Wc.seq (Wc.wn0 [(0,(.agg [(.int .i64 (d.kind)),(.str (d.text)),(.int .i64 (d.n)),(.osl 4 (esD d))])),(1,(.int .i64 (col))),(2,(.int .i64 (w))),(3,(.ptr 0 0 0)),(6,(.bool false))] (hp [.row 0 26 4 0 (some 1) [(.agg [(.int .i64 (d.kind)),(.str (d.text)),(.int .i64 (d.n)),(.osl 4 (esD d))])]]) ?_)
 refine Wc.seq (Wc.enter (Wl.b0 0 1 [(11,(.agg [(.int .i64 (d.kind)),(.str (d.text)),(.int .i64 (d.n)),(.osl 4 (esD d))]))] ?_))
 refine Wl.c 1 [(12,(.tup [(.str (x8 d)),(.bool true)]))] (@hcf) ?_
 refine Wl.b0 2 7 [(7,(.str (x8 d))),(8,(.bool true))] ?_
 refine Wl.dn 7 (Wc.seq (Wc.enter (Wl.b0 0 1 [(15,(.str (x8 d)))] ?_)))
 refine Wl.c 1 [(16,(.int .i64 (z0 10 (x8 d) 0)))] (@Go.AM.cFeed (x8 d) (by omega)) ?_
 refine Wl.b0 2 3 [(9,(.int .i64 (z0 10 (x8 d) 0)))] ?_
 refine Wl.dn 3 (Wc.seq (Wc.seq ?_))
 by_cases hq:0≤z0 10 (x8 d) 0
 ·have e:=(hfp hq).2
  rw [e] at hwl ⊢
  refine Wc.w0 [(18,(.bool (decide (0≤z0 10 (x8 d) 0))))] ?_
  refine Wc.cq (p:=0≤z0 10 (x8 d) 0) (fun c1=>?_) (fun c1=>absurd (show 0≤z0 10 (x8 d) 0 from hq) c1)
  let v2:V:=(.str (List.take (Int.toNat (z0 10 (x8 d) 0)) (x8 d)))
  refine Wc.w [(7,v2)] [(((0:Int)≤z0 10 (x8 d) (0:Nat))∧(z0 10 (x8 d) (0:Nat)≤(List.length (x8 d):Int)))] (.cons (by omega) .nil) ?_
  refine Wc.seq (Wc.enter (Wl.b0 0 6 [(23,(.bool true)),(26,(.int .i64 (max 0 (min col 1073741824)))),(27,v2)] ?_))
  refine Wl.c 6 [(28,(.int .i64 ((wide (List.take (Int.toNat (z0 10 (x8 d) 0)) (x8 d)):Int))))] (@Go.AM.c23 (List.take (Int.toNat (z0 10 (x8 d) 0)) (x8 d)) (by (simp only [List.length_take] at *;omega))) ?_
  refine Wl.bs 7 9 [(29,(.int .i64 (max 0 (min col 1073741824)+(wide (List.take (Int.toNat (z0 10 (x8 d) 0)) (x8 d)):Int)))),(30,(.int .i64 (w)))] [(((-9223372036854775808:Int)≤max (0:Int) (min col (1073741824:Int))+(wide (List.take (Int.toNat (z0 (10:UInt8) (x8 d) (0:Nat))) (x8 d)):Int))∧(max (0:Int) (min col (1073741824:Int))+(wide (List.take (Int.toNat (z0 (10:UInt8) (x8 d) (0:Nat))) (x8 d)):Int)≤9223372036854775807))] (.cons (by (simp only [List.length_take] at *;omega)) .nil) ?_
  refine Wl.c 9 [(31,(.int .i64 (max 0 (min w 10000))))] (@Go.AM.cClip (w)) ?_
  refine Wl.b0 10 13 [(6,(.bool (decide (max 0 (min col 1073741824)+(wide (List.take (Int.toNat (z0 10 (x8 d) 0)) (x8 d)):Int)≤max 0 (min w 10000)))))] ?_
  refine Wl.dn 13 (Wc.ret ?_)
  refine retX.mk (.bool (decide (max 0 (min col 1073741824)+(wide (List.take (Int.toNat (z0 10 (x8 d) 0)) (x8 d)):Int)≤max 0 (min w 10000)))) ⟨rfl,rfl⟩ (by kernel_rfl) ?_
  kernel_rfl
 have e:q01 (x8 d)=x8 d:=by
  have:=qp0 (x8 d)
  unfold q01
  rw [z41 _ (by omega)];rfl
 rw [e] at hwl ⊢
 refine Wc.w0 [(18,(.bool (decide (0≤z0 10 (x8 d) 0))))] ?_
 refine Wc.cq (p:=0≤z0 10 (x8 d) 0) (fun c1=>absurd c1 (show ¬ (0≤z0 10 (x8 d) 0) from hq)) (fun c1=>?_)
 refine Wc.skip (Wc.seq (Wc.enter (Wl.b0 0 6 [(23,(.bool true)),(26,(.int .i64 (max 0 (min col 1073741824)))),(27,(.str (x8 d)))] ?_)))
 refine Wl.c 6 [(28,(.int .i64 ((wide (x8 d):Int))))] (@Go.AM.c23 (x8 d) (by omega)) ?_
 refine Wl.bs 7 9 [(29,(.int .i64 (max 0 (min col 1073741824)+(wide (x8 d):Int)))),(30,(.int .i64 (w)))] [(i64r (max (0:Int) (min col (1073741824:Int))+(wide (x8 d):Int)))] (.cons (by omega) .nil) ?_
 refine Wl.c 9 [(31,(.int .i64 (max 0 (min w 10000))))] (@Go.AM.cClip (w)) ?_
 refine Wl.b0 10 13 [(6,(.bool (decide (max 0 (min col 1073741824)+(wide (x8 d):Int)≤max 0 (min w 10000)))))] ?_
 refine Wl.dn 13 (Wc.ret ?_)
 refine retX.mk (.bool (decide (max 0 (min col 1073741824)+(wide (x8 d):Int)≤max 0 (min w 10000)))) ⟨rfl,rfl⟩ (by kernel_rfl) ?_
 kernel_rfl
end Go.AM
namespace Go.AM
open Go.Proofs
set_option maxRecDepth 100000
set_option maxHeartbeats 4000000
theorem aggS:q30 Tryd.prog 9=some false:=by kernel_rfl
theorem sizS:size Tryd.prog 9=1:=by kernel_rfl
theorem zo1 (s:List UInt8):List.len ((z7 s).map V.str)=(z7 s).length:=by rw [List.len_eq,List.length_map]
theorem ldLn (s:List UInt8) (k:Nat) (h1:k<(z7 s).length):load Tryd.prog (hp [.row 0 9 1 0 none ((z7 s).map V.str)]) 9 (.ptr 0 0 ((0+k)*1))=some (.str ((z7 s).getD k [])) :=
 xy7 (f:=V.str) (fun _=>rfl) (k:=k) [] aggS sizS rfl (by omega) (by omega)
theorem cWidest (s:List UInt8) (hs:s.length≤1000):Cp Tryd.prog EU 12 [.str s] (.int .i64 ((qf8 s:Nat):Int)):=by
 have hlen:=zo1 s
 have hl:=qx9 s
 have hc:=List.count_le_length (a:=(10:UInt8)) (l:=s)
 refine Cp.body (fn:=Tryd.f12) Tryd.func12 rfl (by kernel_rfl) ?_
 refine Wc.seq (Wc.wn0 [(0,(.str s)),(2,(.int .i64 0))] Heap.empty ?_)
 refine Wc.seq (Wc.w0 [(3,(.int .i64 0))] ?_)
 refine Wc.seq (Wc.seq (Wc.enter (Wl.b0 0 1 [(6,(.str s))] ?_)))
 refine Wl.callP (b:=(base 12 19)) (h1:=Heap.empty) (h2:=(hp [.row 0 9 1 0 none (List.map V.str (z7 s))])) (v:=(.sl 0 0 0 (List.len (List.map V.str (z7 s))) none)) (d:=(some 7)) 1 [0,2,3,7] [(0,(.str s)),(2,(.int .i64 0)),(3,(.int .i64 0)),(7,(.sl 0 0 0 (List.len (List.map V.str (z7 s))) none))] (@Go.AM.c13 (s) hs) (by kernel_rfl) (by kernel_rfl) (by kernel_rfl) ?_
 refine Wl.bn0 2 4 [(0,(.str s)),(2,(.int .i64 0)),(3,(.int .i64 0)),(7,(.sl 0 0 0 (List.len (List.map V.str (z7 s))) none)),(8,(.int .i64 ((List.len (List.map V.str (z7 s)):Int)))),(9,(.int .i64 0))] (hp [.row 0 9 1 0 none (List.map V.str (z7 s))]) ?_
 refine Wl.dn 4 (Wc.block ?_)
 refine Wc.loop (α:=Nat) (fun k=>(base 12 19).on [(2,(.int .i64 0)),(3,(.int .i64 ((w7 (z7 s) k:Nat):Int))),(7,(.sl 0 0 0 (List.len (List.map V.str (z7 s))) none)),(8,(.int .i64 ((List.len (List.map V.str (z7 s)):Int)))),(9,(.int .i64 (k:Int)))]) (fun _=>hp [.row 0 9 1 0 none (List.map V.str (z7 s))]) (fun k=>k≤(z7 s).length) (fun k=>(z7 s).length-k) 0 (Le.on [2,3,7,8,9] (by kernel_rfl)) rfl (Nat.zero_le _) ?_
 intro k hk
 have hll:=zk7 s k
 have hwl:=zb9 s k
 have hww:=q15 ((z7 s).getD k [])
 refine Wc.seq (Wc.wn0 [(2,(.int .i64 0)),(3,(.int .i64 ((w7 (z7 s) k:Int)))),(7,(.sl 0 0 0 (List.len (List.map V.str (z7 s))) none)),(8,(.int .i64 ((List.len (List.map V.str (z7 s)):Int)))),(9,(.int .i64 (k:Int))),(10,(.bool (decide ((k:Int)<(List.len (List.map V.str (z7 s)):Int)))))] (hp [.row 0 9 1 0 none (List.map V.str (z7 s))]) ?_)
 refine Wc.seq ?_
 refine Wc.cq (p:=(k:Int)<(List.len (List.map V.str (z7 s)):Int)) (fun c1=>?_) (fun c1=>?_)
 ·refine Wc.skip (Wc.seq (Wc.block (Wc.seq (Wc.enter (Wl.bs 0 1 [(11,(.ptr 0 0 ((0+k)*1)))] [((0≤(k:Int))∧((k:Int)<(List.len (List.map V.str (z7 s)):Int)))] (.cons (by omega) .nil) ?_)))))
  refine Wl.l 1 [(12,(.str (List.getD (z7 s) k [])))] (@Go.AM.ldLn (s) (k) (by omega)) ?_
  refine Wl.b0 2 3 [(5,(.str (List.getD (z7 s) k [])))] ?_
  refine Wl.dn 3 (Wc.enter (Wl.b0 0 2 [(13,(.int .i64 ((w7 (z7 s) k:Int)))),(14,(.str (List.getD (z7 s) k [])))] ?_))
  refine Wl.c 2 [(15,(.int .i64 ((wide (List.getD (z7 s) k []):Int))))] (@Go.AM.c16 (List.getD (z7 s) k []) (by omega)) ?_
  refine Wl.b0 3 5 [(3,(.int .i64 (max (w7 (z7 s) k:Int) (wide (List.getD (z7 s) k []):Int))))] ?_
  refine Wl.dn 5 (Wc.w [(9,(.int .i64 ((k:Int)+1)))] [(i64r ((k:Int)+1))] (.cons (by omega) .nil) ?_)
  refine ⟨k+1,Le.on' [2,3,7,8,9] [(2,.int .i64 0),(3,.int .i64 (max ((w7 (z7 s) k:Nat):Int) ((wide ((z7 s).getD k []):Nat):Int))),(7,.sl 0 0 0 (List.len (List.map V.str (z7 s))) none),(8,.int .i64 ((List.len (List.map V.str (z7 s)):Nat):Int)),(9,.int .i64 ((k:Int)+1))] (by kernel_rfl) ?_,rfl,by omega,by omega⟩
  rw [show ((w7 (z7 s) (k+1):Nat):Int)=max ((w7 (z7 s) k:Nat):Int) ((wide ((z7 s).getD k []):Nat):Int) by simp only [w7];omega]
  rfl
 refine Wc.exit (z8.here (Wc.seq (Wc.w0 [(2,(.int .i64 ((w7 (z7 s) k:Int))))] ?_)))
 refine Wc.ret ?_
 refine retX.mk (.int .i64 ((w7 (z7 s) k:Int))) ⟨rfl,rfl⟩ (by kernel_rfl) ?_
 refine congrArg (fun x=>some (V.int .i64 x)) ?_
 have e:k=(z7 s).length:=by omega
 rw [e];rfl
theorem cRWidest (s:List UInt8) (hs:s.length≤1000):Cp Tryd.prog EU 13 [.str s] (.int .i64 ((qf8 s:Nat):Int)):=by
 have hlen:=zo1 s
 have hl:=qx9 s
 have hc:=List.count_le_length (a:=(10:UInt8)) (l:=s)
 refine Cp.body (fn:=Tryd.f13) Tryd.func13 rfl (by kernel_rfl) ?_
 refine Wc.seq (Wc.wn0 [(0,(.str s)),(2,(.int .i64 0))] Heap.empty ?_)
 refine Wc.seq (Wc.enter (Wl.b0 0 1 [(6,(.str s))] ?_))
 refine Wl.callP (b:=(base 13 22)) (h1:=Heap.empty) (h2:=(hp [.row 0 9 1 0 none (List.map V.str (z7 s))])) (v:=(.sl 0 0 0 (List.len (List.map V.str (z7 s))) none)) (d:=(some 7)) 1 [0,2,7] [(0,(.str s)),(2,(.int .i64 0)),(7,(.sl 0 0 0 (List.len (List.map V.str (z7 s))) none))] (@Go.AM.c25 (s) hs) (by kernel_rfl) (by kernel_rfl) (by kernel_rfl) ?_
 refine Wl.bn0 2 3 [(0,(.str s)),(2,(.int .i64 0)),(3,(.sl 0 0 0 (List.len (List.map V.str (z7 s))) none))] (hp [.row 0 9 1 0 none (List.map V.str (z7 s))]) ?_
 refine Wl.dn 3 (Wc.seq (Wc.w0 [(4,(.int .i64 0))] ?_))
 refine Wc.seq (Wc.seq (Wc.w0 [(5,(.int .i64 0))] ?_))
 refine Wc.block ?_
 refine Wc.loop (α:=Nat) (fun k=>(base 13 22).on [(2,(.int .i64 0)),(3,(.sl 0 0 0 (List.len (List.map V.str (z7 s))) none)),(4,(.int .i64 ((w7 (z7 s) k:Nat):Int))),(5,(.int .i64 (k:Int)))]) (fun _=>hp [.row 0 9 1 0 none (List.map V.str (z7 s))]) (fun k=>k≤(z7 s).length) (fun k=>(z7 s).length-k) 0 (Le.on [2,3,4,5] (by kernel_rfl)) rfl (Nat.zero_le _) ?_
 intro k hk
 have hll:=zk7 s k
 have hwl:=zb9 s k
 have hww:=q15 ((z7 s).getD k [])
 refine Wc.seq (Wc.seq (Wc.wn0 [(2,(.int .i64 0)),(3,(.sl 0 0 0 (List.len (List.map V.str (z7 s))) none)),(4,(.int .i64 ((w7 (z7 s) k:Int)))),(5,(.int .i64 (k:Int))),(11,(.bool (decide ((k:Int)<(List.len (List.map V.str (z7 s)):Int)))))] (hp [.row 0 9 1 0 none (List.map V.str (z7 s))]) ?_))
 refine Wc.cq (p:=(k:Int)<(List.len (List.map V.str (z7 s)):Int)) (fun c1=>?_) (fun c1=>?_)
 ·refine Wc.skip (Wc.seq (Wc.block (Wc.enter (Wl.bs 0 4 [(14,(.int .i64 ((w7 (z7 s) k:Int)))),(17,(.ptr 0 0 ((0+k)*1)))] [((0≤(k:Int))∧((k:Int)<(List.len (List.map V.str (z7 s)):Int)))] (.cons (by omega) .nil) ?_))))
  refine Wl.l 4 [(18,(.str (List.getD (z7 s) k [])))] (@Go.AM.ldLn (s) (k) (by omega)) ?_
  refine Wl.c 5 [(19,(.int .i64 ((wide (List.getD (z7 s) k []):Int))))] (@Go.AM.c23 (List.getD (z7 s) k []) (by omega)) ?_
  refine Wl.b0 6 8 [(4,(.int .i64 (max (w7 (z7 s) k:Int) (wide (List.getD (z7 s) k []):Int))))] ?_
  refine Wl.dn 8 (Wc.w [(5,(.int .i64 ((k:Int)+1)))] [(i64r ((k:Int)+1))] (.cons (by omega) .nil) ?_)
  refine ⟨k+1,Le.on' [2,3,4,5] [(2,.int .i64 0),(3,.sl 0 0 0 (List.len (List.map V.str (z7 s))) none),(4,.int .i64 (max ((w7 (z7 s) k:Nat):Int) ((wide ((z7 s).getD k []):Nat):Int))),(5,.int .i64 ((k:Int)+1))] (by kernel_rfl) ?_,rfl,by omega,by omega⟩
  rw [show ((w7 (z7 s) (k+1):Nat):Int)=max ((w7 (z7 s) k:Nat):Int) ((wide ((z7 s).getD k []):Nat):Int) by simp only [w7];omega]
  rfl
 refine Wc.exit (z8.here (Wc.seq (Wc.w0 [(2,(.int .i64 ((w7 (z7 s) k:Int))))] ?_)))
 refine Wc.ret ?_
 refine retX.mk (.int .i64 ((w7 (z7 s) k:Int))) ⟨rfl,rfl⟩ (by kernel_rfl) ?_
 refine congrArg (fun x=>some (V.int .i64 x)) ?_
 have e:k=(z7 s).length:=by omega
 rw [e];rfl
theorem cLays {d:Dc} {w col:Int} (hd:j7 d) (hs:szD d≤1000) (hpn:pnD d≤320):Cp Tryd.prog EU 11 [encD d,.int .i64 w,.int .i64 col] (.bool true):=by
 refine Cp.body (fn:=Tryd.f11) Tryd.func11 rfl (by kernel_rfl) ?_
 have hll:=xq7 (w:=w) hd (by omega) hpn
 refine Wc.seq ?_
 let v1:V:=(.agg [(.int .i64 (d.kind)),(.str (d.text)),(.int .i64 (d.n)),(.osl 4 (esD d))])
 refine Wc.wn0 [(0,v1),(1,(.int .i64 (w))),(2,(.int .i64 (col))),(3,(.ptr 0 0 0)),(6,(.bool false))] (hp [.row 0 26 4 0 (some 1) [v1]]) ?_
 refine Wc.seq ?_
 refine Wc.drawnL [(15,[(.agg [(.int .i64 (d.kind)),(.str (d.text)),(.int .i64 (d.n)),(.osl 4 (esD d))]),(.int .i64 (w))],(.str (layD w d))),(25,[(.agg [(.int .i64 (d.kind)),(.str (d.text)),(.int .i64 (d.n)),(.osl 4 (esD d))]),(.int .i64 (w))],(.str (layD w d))),(19,[(.agg [(.int .i64 (d.kind)),(.str (d.text)),(.int .i64 (d.n)),(.osl 4 (esD d))]),(.int .i64 (col)),(.int .i64 (w))],(.bool (q38 d col w))),(26,[(.agg [(.int .i64 (d.kind)),(.str (d.text)),(.int .i64 (d.n)),(.osl 4 (esD d))]),(.int .i64 (col)),(.int .i64 (w))],(.bool (q38 d col w)))] (j73 (fun f _=>match f with | 15=>.str (layD w d) | 25=>.str (layD w d) | _=>.bool (q38 d col w)) ⟨rfl,rfl,rfl,rfl,trivial⟩) ⟨(@Go.AM.cLay (d) (w) hd (by omega) hpn),⟨(@Go.AM.cRLayout (d) (w) hd hs hpn),⟨(@Go.AM.cFitsOne (d) (col) (w) hd (by omega)),⟨(@Go.AM.cRFitsOne (d) (col) (w) hd hs),trivial⟩⟩⟩⟩ (by kernel_rfl) (fun kn1=>?_)
 obtain ⟨kn1_0,kn1_1,kn1_2,kn1_3,-⟩:=kn1
 let v2:V:=(.agg [(.int .i64 (d.kind)),(.str (d.text)),(.int .i64 (d.n)),(.osl 4 (esD d))])
 refine Dl.b0 0 2 [(7,v2),(8,(.int .i64 (w)))] ?_
 refine Dl.c 2 [(9,(.str (layD w d)))] kn1_0 (by rfl) ?_
 refine Dl.b0 3 5 [(10,v2),(11,(.int .i64 (w)))] ?_
 refine Dl.c 5 [(12,(.str (layD w d)))] kn1_1 (by rfl) ?_
 refine Dl.b0 6 8 [(14,(.bool (decide (layD w d=layD w d))))] ?_
 refine Dl.k 14 (.bool (decide (layD w d=layD w d))) (.bool true) (by have e:=decide_eq_true (show layD w d=layD w d from (by rfl));simp only [e] <;> rfl) ?_
 refine Dl.b0 8 11 [(15,v2),(16,(.int .i64 (col))),(17,(.int .i64 (w)))] ?_
 refine Dl.c 11 [(18,(.bool (q38 d col w)))] kn1_2 (by rfl) ?_
 refine Dl.b0 12 15 [(19,v2),(20,(.int .i64 (col))),(21,(.int .i64 (w)))] ?_
 refine Dl.c 15 [(22,(.bool (q38 d col w)))] kn1_3 (by rfl) ?_
 refine Dl.b0 16 19 [(6,(.bool (Bool.rec (!q38 d col w) (q38 d col w) (q38 d col w))))] ?_
 refine Dl.done 19 rfl ?_
 refine Wc.ret ?_
 refine retX.mk (.bool (Bool.rec (!q38 d col w) (q38 d col w) (q38 d col w))) ⟨rfl,rfl⟩ (by kernel_rfl) ?_
 cases q38 d col w <;> rfl
end Go.AM
namespace Go.AM
open Go.Proofs
set_option maxRecDepth 100000
set_option maxHeartbeats 4000000
open Classical in
theorem xe6 (l:List UInt8) (wd col:Int) (hw:-9223372036854775808≤wd∧wd≤9223372036854775807) (hc:-9223372036854775808≤col∧col≤9223372036854775807) (k:Nat) (hk:k<256) (s:List UInt8) (hs:s.length≤9223372036854775807):Cx Tryd.prog EU 3 [.osl 1 (l.map bV),.int .i64 wd,.int .i64 col,.int .u8 (k:Int),.str s] Heap.empty (fun v _=>v=.bool true):=by
 have hsz:=xt3 l
 have hpn:=xr5 l
 have hcD:=@cDoc l
 generalize qs0 l=d at *
 have hrt:=xk9 481 (by omega) d hsz
 refine Ev.body (fn:=Tryd.f3) Tryd.func3 rfl (by kernel_rfl) ?_
 have hw1:0≤(k:Int)%40:=by omega
 refine Wc.seq (Wc.wn0 [(0,(.osl 1 (List.map bV l))),(1,(.int .i64 (wd))),(2,(.int .i64 (col))),(3,(.int .u8 (k:Int))),(4,(.str s)),(10,(.bool false))] Heap.empty ?_)
 refine Wc.seq (Wc.seq (Wc.enter (Wl.b0 0 4 [(15,(.bool (decide (300<(List.length s:Int)))))] ?_)))
 refine Wl.split (p:=300<(List.length s:Int)) (fun c1=>?_) (fun c1=>?_)
 ·refine Wl.k 15 (.bool (decide (300<(List.length s:Int)))) (.bool true) (by have e:=decide_eq_true c1;simp only [e] <;> rfl) ?_
  refine Wl.b0 4 7 [(18,(.bool true))] ?_
  refine Wl.dn 7 (Wc.ct (Wc.seq (Wc.w0 [(10,(.bool true))] ?_)))
  refine Wc.ret ?_
  refine retX.mk (.bool true) ⟨rfl,rfl⟩ (by kernel_rfl) ?_
  kernel_rfl
 refine Wl.k 15 (.bool (decide (300<(List.length s:Int)))) (.bool false) (by have e:=decide_eq_false c1;simp only [e] <;> rfl) ?_
 refine Wl.b0 4 7 [(18,(.bool false))] ?_
 refine Wl.dn 7 (Wc.cf (Wc.skip (Wc.seq ?_)))
 have hright:=xk9 100000 (by omega) d (by omega)
 clear hrt
 by_cases hr:j7 d
 ·rw [decide_eq_true hr] at hright
  have hd1:szD d≤1000:=by omega
  have hd2:pnD d≤320:=by omega
  have hs1:s.length≤1000:=by omega
  refine Wc.enter (Wl.b0 0 1 [(20,(.osl 1 (List.map bV l)))] ?_)
  refine Wl.c 1 [(21,(.agg [(.int .i64 (d.kind)),(.str (d.text)),(.int .i64 (d.n)),(.osl 4 (esD d))]))] (@hcD) ?_
  refine Wl.bn0 2 4 [(11,(.ptr 0 0 0))] (hp [.row 0 26 4 0 (some 1) [(.agg [(.int .i64 (d.kind)),(.str (d.text)),(.int .i64 (d.n)),(.osl 4 (esD d))])]]) ?_
  refine Wl.dn 4 (Wc.seq (Wc.seq (Wc.enter (Wl.b0 0 1 [(22,(.agg [(.int .i64 (d.kind)),(.str (d.text)),(.int .i64 (d.n)),(.osl 4 (esD d))]))] ?_))))
  refine Wl.c 1 [(23,(.bool true))] (@hright) ?_
  refine Wl.b0 2 3 [(24,(.bool false))] ?_
  refine Wl.dn 3 (Wc.cf (Wc.skip (Wc.seq (Wc.enter (Wl.b0 0 3 [(25,(.agg [(.int .i64 (d.kind)),(.str (d.text)),(.int .i64 (d.n)),(.osl 4 (esD d))])),(26,(.int .i64 (wd))),(27,(.int .i64 (col)))] ?_)))))
  refine Wl.c 3 [(28,(.bool true))] (@Go.AM.cLays (d) (wd) (col) hr hd1 hd2) ?_
  refine Wl.bs 4 12 [(29,(.bool true)),(30,(.agg [(.int .i64 (d.kind)),(.str (d.text)),(.int .i64 (d.n)),(.osl 4 (esD d))])),(33,(.int .i64 ((k:Int)%40))),(36,(.int .i64 ((k:Int)/8)))] [((0≤(k:Int))∧((0:Int)<40)),(i64r ((k:Int)%40)),((0≤(k:Int))∧(((0:Int)<8)∧((0≤(k:Int)/8)∧((k:Int)/8≤(255:Int))))),(i64r ((k:Int)/8))] (.cons (by omega) (.cons (by omega) (.cons (by omega) (.cons (by omega) .nil)))) ?_
  refine Wl.c 12 [(37,(.bool true))] (@Go.AM.cLays (d) ((k:Int)%40) ((k:Int)/8) hr hd1 hd2) ?_
  refine Wl.b0 13 16 [(39,(.bool true)),(40,(.str s))] ?_
  refine Wl.c 16 [(41,(.int .i64 ((qf8 s:Int))))] (@Go.AM.cWidest (s) hs1) ?_
  refine Wl.b0 17 18 [(42,(.str s))] ?_
  refine Wl.c 18 [(43,(.int .i64 ((qf8 s:Int))))] (@Go.AM.cRWidest (s) hs1) ?_
  refine Wl.b0 19 22 [(10,(.bool (decide ((qf8 s:Int)=(qf8 s:Int)))))] ?_
  refine Wl.dn 22 (Wc.ret ?_)
  refine retX.mk (.bool (decide ((qf8 s:Int)=(qf8 s:Int)))) ⟨rfl,rfl⟩ (by kernel_rfl) ?_
  rw [decide_eq_true rfl]
 rw [decide_eq_false hr] at hright
 refine Wc.enter (Wl.b0 0 1 [(20,(.osl 1 (List.map bV l)))] ?_)
 let v1:V:=(.agg [(.int .i64 (d.kind)),(.str (d.text)),(.int .i64 (d.n)),(.osl 4 (esD d))])
 refine Wl.c 1 [(21,v1)] (@hcD) ?_
 refine Wl.bn0 2 4 [(11,(.ptr 0 0 0))] (hp [.row 0 26 4 0 (some 1) [v1]]) ?_
 refine Wl.dn 4 (Wc.seq (Wc.seq (Wc.enter (Wl.b0 0 1 [(22,v1)] ?_))))
 refine Wl.c 1 [(23,(.bool false))] (@hright) ?_
 refine Wl.b0 2 3 [(24,(.bool true))] ?_
 refine Wl.dn 3 (Wc.ct (Wc.seq (Wc.w0 [(10,(.bool true))] ?_)))
 refine Wc.ret ?_
 refine retX.mk (.bool true) ⟨rfl,rfl⟩ (by kernel_rfl) ?_
 kernel_rfl
end Go.AM
namespace Go.AM
open Go.Proofs
set_option maxRecDepth 100000
set_option maxHeartbeats 4000000
theorem zu6 (x:V) (l:List UInt8) (hx:Bs x l) (wd:Int) (hw1:-9223372036854775808≤wd) (hw2:wd≤9223372036854775807) (col:Int) (hc1:-9223372036854775808≤col) (hc2:col≤9223372036854775807) (k:Nat) (hk:k<256) (s:List UInt8) (hs:s.length≤9223372036854775807):Cx Tryd.prog EU 3 [x,.int .i64 wd,.int .i64 col,.int .u8 (k:Int),.str s] Heap.empty (fun v _=>v=.bool true) :=
 .args (.cons hx.osl (.cons (.refl _) (.cons (.refl _) (.cons (.refl _) (.cons (.refl _) .nil))))) (xe6 l wd col ⟨hw1,hw2⟩ ⟨hc1,hc2⟩ k hk s hs)
end Go.AM
