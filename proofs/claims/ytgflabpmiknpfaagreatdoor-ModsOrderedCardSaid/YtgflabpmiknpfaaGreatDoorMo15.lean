/-
  WHAT FUNCTIONS OF THE PROGRAM COME TO, told by the machine, and plain laws of it. No condition but what each theorem says of its arguments.
-/
import Derived.Test.YtgflabpmiknpfaaGreatDoorMo7
import Derived.Test.YtgflabpmiknpfaaGreatDoorMo8
import Derived.Test.YtgflabpmiknpfaaGreatDoorMo9
import Derived.Test.YtgflabpmiknpfaaGreatDoorMo10
import Derived.Test.YtgflabpmiknpfaaGreatDoorMo11
import Derived.Test.YtgflabpmiknpfaaGreatDoorMo12
import Derived.Test.YtgflabpmiknpfaaGreatDoorMo13
import Derived.Test.YtgflabpmiknpfaaGreatDoorMo14
namespace Go.AM
open Go.Proofs
set_option maxRecDepth 100000
set_option maxHeartbeats 4000000
/-- MODS ORDERED. -/
theorem jt1 (k:Nat) (h1:2≤k) (h2:k≤50) (n:Nat):rn PP EP CP (n+100) (.call 6 [.sl 0 (k-1) 0 k none] (hp [rwF (k-1) (qa0 k)]))=.ret (.osl 3 []) (hp [rwF (k-1) (qa0 k)]):=by
 match k,h1,h2 with
 | 2,_,_=>exact chk_2 n
 | 3,_,_=>exact chk_3 n
 | 4,_,_=>exact chk_4 n
 | 5,_,_=>exact chk_5 n
 | 6,_,_=>exact chk_6 n
 | 7,_,_=>exact chk_7 n
 | 8,_,_=>exact chk_8 n
 | 9,_,_=>exact chk_9 n
 | 10,_,_=>exact chk_10 n
 | 11,_,_=>exact chk_11 n
 | 12,_,_=>exact chk_12 n
 | 13,_,_=>exact chk_13 n
 | 14,_,_=>exact chk_14 n
 | 15,_,_=>exact chk_15 n
 | 16,_,_=>exact chk_16 n
 | 17,_,_=>exact chk_17 n
 | 18,_,_=>exact chk_18 n
 | 19,_,_=>exact chk_19 n
 | 20,_,_=>exact chk_20 n
 | 21,_,_=>exact chk_21 n
 | 22,_,_=>exact chk_22 n
 | 23,_,_=>exact chk_23 n
 | 24,_,_=>exact chk_24 n
 | 25,_,_=>exact chk_25 n
 | 26,_,_=>exact chk_26 n
 | 27,_,_=>exact chk_27 n
 | 28,_,_=>exact chk_28 n
 | 29,_,_=>exact chk_29 n
 | 30,_,_=>exact chk_30 n
 | 31,_,_=>exact chk_31 n
 | 32,_,_=>exact chk_32 n
 | 33,_,_=>exact chk_33 n
 | 34,_,_=>exact chk_34 n
 | 35,_,_=>exact chk_35 n
 | 36,_,_=>exact chk_36 n
 | 37,_,_=>exact chk_37 n
 | 38,_,_=>exact chk_38 n
 | 39,_,_=>exact chk_39 n
 | 40,_,_=>exact chk_40 n
 | 41,_,_=>exact chk_41 n
 | 42,_,_=>exact chk_42 n
 | 43,_,_=>exact chk_43 n
 | 44,_,_=>exact chk_44 n
 | 45,_,_=>exact chk_45 n
 | 46,_,_=>exact chk_46 n
 | 47,_,_=>exact chk_47 n
 | 48,_,_=>exact chk_48 n
 | 49,_,_=>exact chk_49 n
 | 50,_,_=>exact chk_50 n
 | k+51,_,h=>exact absurd h (by omega)
theorem js1 (k:Nat) (h1:2≤k) (h2:k≤50):OkO (fun X=>X.Dg (.call 6 [.sl 0 (k-1) 0 k none] (hp [rwF (k-1) (qa0 k)]))) fun a=>a=([],k-1,qa0 k) :=
 .tk (R:=rDg) (L:=nDg) (fun _=>rfl) (fun _=>rfl) ⟨_,⟨([],k-1,qa0 k),rfl,rfl⟩,100,fun n hn=>by
  obtain ⟨m,rfl⟩:∃ m,n=m+100:=⟨n-100,by omega⟩
  exact jt1 k h1 h2 m⟩
theorem dg_ld:ldC PP 33 3 dg42 1∧ldC PP 9 3 dg42 0∧gI 3 dg42 1 0=42∧gS 3 dg42 0 0=[]:=by
 refine ⟨?_,?_,?_,?_⟩
 ·unfold ldC;kernel_rfl
 ·unfold ldC;kernel_rfl
 ·kernel_rfl
 ·kernel_rfl
theorem Yj1 (n i:Int) (n0:0≤n) (n1:n≤255) (i0:0≤i) (i1:i≤255) (same:Bool):Tk (.call 3 [.int .u8 n,.int .u8 i,.bool same] Heap.empty) (.ret (.bool true) Heap.empty):=by
 have key:∃ r,r=Res.ret (.bool true) Heap.empty∧Tk (.call 3 [.int .u8 n,.int .u8 i,.bool same] Heap.empty) r:=by
  refine Tk.byO (.of (fun m=>Qb1 (XO m) _ none some n i same) ?_)
  obtain ⟨k,hk⟩:∃ k:Nat,2+n%60=(k:Int):=⟨(2+n%60).toNat,by omega⟩
  have k2:2≤k:=by omega
  have k61:k≤61:=by omega
  obtain ⟨t,ht⟩:∃ t:Nat,i%((k:Int)-1)=(t:Int):=⟨(i%((k:Int)-1)).toNat,(Int.toNat_of_nonneg (Int.emod_nonneg i (by omega))).symm⟩
  have htk:t<k-1:=by
   have:=Int.emod_lt_of_pos i (show (0:Int)<(k:Int)-1 by omega)
   omega
  have plen:=zp1 k
  have gk:GndR (qa0 k):=by rw [zN0];exact zA0 _
  have flen:(qa0 k).length=k:=by rw [zN0,List.length_map,plen]
  have hrise:∀ j (h:j<(qy0 k).length),0<j→qU0 ((qy0 k)[j-1]'(by omega)) (qy0 k)[j]=true:=fun j h h0=>by
   rw [QU0,QU0];exact rise j h0 (by omega)
  have hsort:=zV1 (qy0 k) hrise (by omega)
  rw [← zN0,plen] at hsort
  have at0:(qa0 k)[t]?=some (qe0 (qp0 t)):=by rw [zN0];have:=zr0 (qy0 k) (t:=t) (by omega);rw [QU0] at this;exact this
  have at1:(qa0 k)[t+1]?=some (qe0 (qp0 (t+1))):=by rw [zN0];have:=zr0 (qy0 k) (t:=t+1) (by omega);rw [QU0] at this;exact this
  have g0:=f_g at0
  have l0:=jL0 at0
  have s1:=f_set at1 (qp0 t)
  have st1:=f_st at1 (qp0 t)
  have es1:(qa0 k).set (t+1) (qe0 (qp0 t))=((qy0 k).set (t+1) (qp0 t)).map qe0:=by rw [zN0,List.map_set]
  rw [es1] at s1
  have len1:((qy0 k).set (t+1) (qp0 t)).length=k:=by rw [List.length_set,plen]
  have bad1:OkO (fun X=>X.O (.call 5 [.osl 2 (((qy0 k).set (t+1) (qp0 t)).map qe0)] Heap.empty)) fun a=>a=false:=by
   refine zU1 _ (t+1) (by omega) (by omega) ?_ (by omega)
   have e1:((qy0 k).set (t+1) (qp0 t))[t+1]'(by omega)=qp0 t:=by rw [List.getElem_set_self]
   have e0:((qy0 k).set (t+1) (qp0 t))[t+1-1]'(by omega)=qp0 t:=by
    simp only [Nat.add_sub_cancel]
    rw [List.getElem_set_ne (by omega),QU0]
   rw [e1,e0]
   exact jd1 _
  have at2:(((qy0 k).set (t+1) (qp0 t)).map qe0)[t]?=some (qe0 (qp0 t)):=by
   have:=zr0 ((qy0 k).set (t+1) (qp0 t)) (t:=t) (by omega)
   rw [List.getElem_set_ne (by omega),QU0] at this
   exact this
  have s2:=f_set at2 [122,122]
  have st2:=f_st at2 [122,122]
  have es2:(((qy0 k).set (t+1) (qp0 t)).map qe0).set t (qe0 [122,122])=(((qy0 k).set (t+1) (qp0 t)).set t [122,122]).map qe0:=List.map_set.symm
  rw [es2] at s2
  have len2:(((qy0 k).set (t+1) (qp0 t)).set t [122,122]).length=k:=by rw [List.length_set,len1]
  have bad2:OkO (fun X=>X.O (.call 5 [.osl 2 ((((qy0 k).set (t+1) (qp0 t)).set t [122,122]).map qe0)] Heap.empty)) fun a=>a=false:=by
   refine zU1 _ (t+1) (by omega) (by omega) ?_ (by omega)
   have e1:(((qy0 k).set (t+1) (qp0 t)).set t [122,122])[t+1]'(by omega)=qp0 t:=by
    rw [List.getElem_set_ne (by omega),List.getElem_set_self]
   have e0:(((qy0 k).set (t+1) (qp0 t)).set t [122,122])[t+1-1]'(by omega)=[122,122]:=by
    simp only [Nat.add_sub_cancel]
    rw [List.getElem_set_self]
   rw [e1,e0]
   exact zz t (by omega)
  have c1:=Yq0 _ (k-1) bad1
  have c2:=Yq0 _ (k-1) bad2
  have f1:=GW0 _ (k-1) bad1
  have f2:=GW0 _ (k-1) bad2
  rw [len1] at c1 f1
  rw [len2] at c2 f2
  have q1:=zA0 ((qy0 k).set (t+1) (qp0 t))
  have q2:=zA0 (((qy0 k).set (t+1) (qp0 t)).set t [122,122])
  obtain ⟨d1,d2,d3,d4⟩:=dg_ld
  have et:(t:Int)+1=((t+1:Nat):Int):=by omega
  have bt:(0:Int)≤(t:Int)∧(t:Int)<(k:Int):=by omega
  have bt1:(0:Int)≤((t+1:Nat):Int)∧((t+1:Nat):Int)<(k:Int):=by omega
  have x1:(0:Int)≤0∧(0:Int)<((dg42.length:Nat):Int):=by decide
  simp only [hk]
  refine Rn.need (by omega) (Rn.nI (by omega) (Rn.nI (by omega) (Rn.got (lawL0 i k k61 k2 same) (Rn.nG flen.symm gk (Rn.got hsort ?_)))))
  rcases Nat.lt_or_ge 50 k with h50 | h50
  ·have hs2:OkO (fun X=>X.O (.call 5 [.osl 2 ((qy0 k).map qe0)] Heap.empty)) fun a=>a=false:=by
    have:=zV1 (qy0 k) hrise (by omega)
    rw [plen,decide_eq_false (by omega)] at this
    exact this
   have ck:=Yq0 (qy0 k) (k-1) hs2
   rw [plen,← zN0] at ck
   rw [decide_eq_false (by omega)]
   refine Rn.cf (Rn.need gk (Rn.got ck ?_))
   simp only [ht,et,Int.toNat_natCast,Nat.zero_add,Nat.add_eq,Nat.add_zero,g0,s1,s2]
   refine Rn.need gk (Rn.nI (by omega) (Rn.nI (by omega) (Rn.need (by omega) (Rn.nI (by omega) (Rn.need bt (Rn.need ⟨trivial,l0⟩ (Rn.need bt1 (Rn.need trivial (Rn.need st1 ?_)))))))))
   cases same with
   | true=>exact Rn.ct (Rn.need q1 (Rn.got c1 (Rn.need q1 (Rn.need q1 (Rn.got f1 (Rn.need q1 (Rn.decF (show ¬ ((k:Int)≤50) by omega) (Rn.decF (show ¬ (((1:Nat):Int)=0) by decide) (Rn.decT rfl (Rn.nX x1 (Rn.need d1 (Rn.decT d3 (Rn.nX x1 (Rn.need d2 (Rn.decT d4 (Rn.decT rfl (Rn.decT rfl (Rn.ret rfl))))))))))))))))))
   | false=>exact Rn.cf (Rn.need bt (Rn.need trivial (Rn.need st2 (Rn.need q2 (Rn.got c2 (Rn.need q2 (Rn.need q2 (Rn.got f2 (Rn.need q2 (Rn.decF (show ¬ ((k:Int)≤50) by omega) (Rn.decF (show ¬ (((1:Nat):Int)=0) by decide) (Rn.decT rfl (Rn.nX x1 (Rn.need d1 (Rn.decT d3 (Rn.nX x1 (Rn.need d2 (Rn.decT d4 (Rn.decT rfl (Rn.decT rfl (Rn.ret rfl)))))))))))))))))))))
  ·rw [decide_eq_true h50]
   refine Rn.ct (Rn.need gk (Rn.got (js1 k k2 h50) ?_))
   simp only [ht,et,Int.toNat_natCast,Nat.zero_add,Nat.add_eq,Nat.add_zero,g0,s1,s2]
   refine Rn.need gk (Rn.nI (by omega) (Rn.nI (by omega) (Rn.need (by omega) (Rn.nI (by omega) (Rn.need bt (Rn.need ⟨trivial,l0⟩ (Rn.need bt1 (Rn.need trivial (Rn.need st1 ?_)))))))))
   cases same with
   | true=>exact Rn.ct (Rn.need q1 (Rn.got c1 (Rn.need q1 (Rn.need q1 (Rn.got f1 (Rn.need q1 (Rn.decT (show (k:Int)≤50 by omega) (Rn.decT rfl (Rn.decT rfl (Rn.nX x1 (Rn.need d1 (Rn.decT d3 (Rn.nX x1 (Rn.need d2 (Rn.decT d4 (Rn.decT rfl (Rn.decT rfl (Rn.ret rfl))))))))))))))))))
   | false=>exact Rn.cf (Rn.need bt (Rn.need trivial (Rn.need st2 (Rn.need q2 (Rn.got c2 (Rn.need q2 (Rn.need q2 (Rn.got f2 (Rn.need q2 (Rn.decT (show (k:Int)≤50 by omega) (Rn.decT rfl (Rn.decT rfl (Rn.nX x1 (Rn.need d1 (Rn.decT d3 (Rn.nX x1 (Rn.need d2 (Rn.decT d4 (Rn.decT rfl (Rn.decT rfl (Rn.ret rfl)))))))))))))))))))))
 obtain ⟨r,rfl,h⟩:=key
 exact h
def Xa1:T Bool:=(.n (.n (.n (.n (.n (.n (.n (.n (.n .e true .e) true .e) false (.n .e true .e)) true (.n (.n .e true .e) true (.n .e true .e))) true (.n (.n (.n (.n .e true .e) true .e) true (.n .e true .e)) true (.n (.n .e true .e) true (.n .e true .e)))) false (.n (.n (.n (.n .e true .e) true (.n .e true .e)) true (.n (.n (.n .e true .e) true .e) true .e)) false (.n .e false (.n (.n (.n .e true .e) true .e) false .e)))) false (.n (.n (.n (.n (.n .e true .e) true (.n .e true .e)) true (.n (.n .e true .e) true (.n .e true .e))) false (.n (.n (.n .e true .e) true .e) false (.n (.n .e true .e) true (.n .e true .e)))) false (.n (.n (.n (.n (.n .e true .e) true .e) true (.n .e true .e)) true (.n (.n (.n .e true .e) true .e) true (.n .e true .e))) false (.n (.n (.n (.n .e true .e) true .e) false .e) false (.n (.n .e true .e) false .e))))) false (.n (.n (.n (.n (.n (.n .e true .e) false (.n .e true .e)) true (.n (.n .e true .e) true (.n .e true .e))) false (.n (.n .e true .e) true (.n .e true .e))) true (.n (.n (.n (.n .e true .e) false (.n .e true .e)) true (.n (.n (.n .e true .e) true .e) true (.n .e true .e))) true (.n (.n (.n .e true .e) true .e) false (.n (.n (.n .e true .e) true .e) true (.n .e true .e))))) false (.n (.n (.n (.n (.n .e true .e) false .e) false (.n (.n (.n .e true .e) true .e) true .e)) false (.n (.n (.n .e true .e) true .e) false (.n (.n .e true .e) true .e))) false (.n (.n (.n (.n (.n .e true .e) false .e) true (.n .e true .e)) false (.n .e true .e)) true (.n (.n (.n (.n .e true .e) false .e) false (.n .e true .e)) true (.n (.n .e true .e) true (.n .e true .e))))))) false (.n (.n (.n (.n (.n (.n (.n (.n .e true .e) true .e) false (.n .e true .e)) true (.n (.n (.n .e true .e) true .e) true (.n .e true .e))) false (.n (.n .e true (.n .e true .e)) true (.n .e true .e))) false (.n (.n (.n (.n (.n .e true .e) true .e) true (.n .e true .e)) true (.n (.n (.n .e true .e) true .e) true .e)) false (.n (.n (.n .e true .e) false .e) false (.n (.n (.n .e true .e) true .e) false (.n .e true .e))))) false (.n (.n (.n (.n (.n .e true .e) true .e) false (.n (.n .e true .e) false (.n .e true .e))) false (.n (.n (.n .e true .e) true .e) false (.n .e true .e))) false (.n (.n (.n (.n (.n .e true .e) true .e) false (.n .e true .e)) true (.n (.n .e true .e) true (.n .e true .e))) true (.n (.n (.n (.n .e true .e) false .e) true .e) true (.n (.n .e true .e) false .e))))) false (.n (.n (.n (.n (.n (.n (.n .e true .e) true .e) true .e) true (.n (.n (.n .e true .e) true .e) true (.n .e true .e))) false (.n (.n .e true (.n .e true .e)) false (.n (.n .e true .e) true (.n .e true .e)))) true (.n (.n (.n (.n .e true .e) true (.n .e true .e)) false (.n (.n .e true .e) true .e)) false (.n (.n (.n (.n .e true .e) false .e) true (.n .e true .e)) true (.n (.n (.n .e true .e) true .e) false .e)))) false (.n (.n (.n (.n (.n .e true .e) true (.n .e true .e)) false (.n (.n .e true .e) true (.n .e true .e))) false (.n (.n (.n (.n .e true .e) false .e) false .e) true (.n (.n (.n .e true .e) false .e) false (.n .e true .e)))) false (.n (.n (.n (.n .e true .e) true (.n .e true .e)) false (.n (.n .e true .e) true (.n .e true .e))) true (.n (.n .e false (.n .e true .e)) false (.n (.n (.n .e true .e) true .e) true (.n .e true .e))))))))
def Jf1:T Bool:=(.n (.n (.n (.n (.n (.n (.n (.n (.n .e true .e) true .e) false (.n .e true .e)) false .e) false (.n (.n .e true (.n .e true .e)) false .e)) false (.n (.n (.n .e false (.n .e true .e)) false (.n (.n (.n .e true .e) false .e) false .e)) false .e)) false (.n (.n (.n (.n (.n .e true .e) false .e) false .e) false (.n .e false (.n .e false (.n .e true .e)))) false (.n (.n (.n (.n .e true .e) false .e) false .e) false (.n (.n (.n (.n .e true .e) false .e) false .e) false .e)))) false (.n (.n (.n (.n (.n (.n .e true .e) false .e) false .e) false .e) false (.n .e false (.n (.n .e true .e) false (.n (.n .e true .e) false .e)))) false (.n (.n (.n (.n (.n .e true .e) false .e) false .e) false .e) false (.n (.n (.n .e true .e) false .e) false (.n (.n (.n (.n .e true .e) false .e) false .e) false (.n (.n .e true .e) true (.n .e true .e))))))) false (.n (.n (.n (.n (.n (.n (.n (.n .e true .e) true .e) false .e) false .e) false (.n (.n .e false (.n .e true .e)) false .e)) false (.n (.n (.n (.n .e true .e) true .e) false .e) false (.n .e false (.n (.n .e true .e) false (.n .e true .e))))) false (.n (.n (.n (.n (.n .e true .e) false .e) false .e) false .e) false (.n (.n (.n .e false (.n .e true .e)) false .e) false (.n (.n (.n (.n .e true .e) false .e) false .e) true .e)))) false (.n (.n (.n (.n (.n (.n (.n .e true .e) true .e) false .e) false .e) false (.n .e false (.n .e false (.n .e true .e)))) false (.n (.n (.n (.n .e true .e) false (.n .e true .e)) false .e) false (.n (.n (.n (.n .e true .e) false .e) true .e) false (.n (.n .e true .e) false .e)))) false (.n (.n (.n (.n .e false (.n .e true .e)) false .e) false (.n .e false (.n .e false (.n .e true .e)))) false (.n (.n (.n .e true (.n .e true .e)) false .e) false (.n .e false (.n (.n .e true .e) true (.n .e true .e))))))))
noncomputable def EK0:Env:={ shared:=T.get false Xa1,pubRet:=T.get false Jf1,prim:=fun _ _=>none,glob:=YD0 }
theorem names:zS0 Tryz.prog:=Yk1 (by kernel_rfl)
theorem snd0:Snd Tryz.prog EK0 (run Tryz.prog EK0 1000000):=Ju0 names (YU1 rfl) _
theorem yH1:Gc0=asciiZ.map (V.int .u8):=by kernel_rfl
def JK0:List (List UInt8×V):=[([97,110,100,32,97,115,32,98,114,101,97,107,32,99,97,116,99,104,32,100,101,102,32,101,108,105,102,32,101,108,115,101,32,101,110,100,32,102,111,114,101,97,99,104,32,105,102,32,105,109,112,111,114,116,32,105,110,99,108,117,100,101,32,108,97,98,101,108,32,109,111,100,117,108,101,32,111,114,32,114,101,100,117,99,101,32,116,104,101,110,32,116,114,121],(.fsl 9 1 0 [(.str [97,110,100]),(.str [97,115]),(.str [98,114,101,97,107]),(.str [99,97,116,99,104]),(.str [100,101,102]),(.str [101,108,105,102]),(.str [101,108,115,101]),(.str [101,110,100]),(.str [102,111,114,101,97,99,104]),(.str [105,102]),(.str [105,109,112,111,114,116]),(.str [105,110,99,108,117,100,101]),(.str [108,97,98,101,108]),(.str [109,111,100,117,108,101]),(.str [111,114]),(.str [114,101,100,117,99,101]),(.str [116,104,101,110]),(.str [116,114,121])] (.some 18))),([124],(.fsl 9 1 0 [(.str [124])] (.some 1))),([44],(.fsl 9 1 0 [(.str [44])] (.some 1))),([47,47],(.fsl 9 1 0 [(.str [47,47])] (.some 1))),([61,32,124,61,32,43,61,32,45,61,32,42,61,32,47,61,32,37,61,32,47,47,61],(.fsl 9 1 0 [(.str [61]),(.str [124,61]),(.str [43,61]),(.str [45,61]),(.str [42,61]),(.str [47,61]),(.str [37,61]),(.str [47,47,61])] (.some 8))),([111,114],(.fsl 9 1 0 [(.str [111,114])] (.some 1))),([97,110,100],(.fsl 9 1 0 [(.str [97,110,100])] (.some 1))),([61,61,32,33,61,32,60,32,60,61,32,62,32,62,61],(.fsl 9 1 0 [(.str [61,61]),(.str [33,61]),(.str [60]),(.str [60,61]),(.str [62]),(.str [62,61])] (.some 6))),([43,32,45],(.fsl 9 1 0 [(.str [43]),(.str [45])] (.some 2))),([42,32,47,32,37],(.fsl 9 1 0 [(.str [42]),(.str [47]),(.str [37])] (.some 3)))]
theorem KI0:ckT Tryz.prog EK0 1000000 292 JK0=true:=by kernel_rfl
def Ka0:List (FuncId×List (List UInt8×V)):=[(292,JK0)]
noncomputable def E1:Env:={ EK0 with prim:=QM0 Ka0 [] }
theorem prim1:zI0 Tryz.prog E1:=YU0 (TT:=Ka0) (T0:=[]) rfl (fun p hp=>by
 simp only [Ka0,List.mem_cons,List.not_mem_nil,or_false] at hp
 subst hp
 exact zX0 snd0 KI0
 ) (fun q hq=>by cases hq)
theorem snd1:Snd Tryz.prog E1 (run Tryz.prog E1 1000000):=Ju0 names prim1 _
def KJ0:List (List UInt8×V):=[([],(.int .i64 0)),([124],(.int .i64 1)),([44],(.int .i64 2)),([47,47],(.int .i64 3)),([61],(.int .i64 4)),([124,61],(.int .i64 4)),([43,61],(.int .i64 4)),([45,61],(.int .i64 4)),([42,61],(.int .i64 4)),([47,61],(.int .i64 4)),([37,61],(.int .i64 4)),([47,47,61],(.int .i64 4)),([111,114],(.int .i64 5)),([97,110,100],(.int .i64 6)),([61,61],(.int .i64 7)),([33,61],(.int .i64 7)),([60],(.int .i64 7)),([60,61],(.int .i64 7)),([62],(.int .i64 7)),([62,61],(.int .i64 7)),([43],(.int .i64 8)),([45],(.int .i64 8)),([42],(.int .i64 9)),([47],(.int .i64 9)),([37],(.int .i64 9))]
theorem yc1:ckT Tryz.prog E1 1000000 173 KJ0=true:=by kernel_rfl
def KK0:List (List UInt8×V):=[([],(.int .i64 0)),([124],(.int .i64 1)),([44],(.int .i64 3)),([47,47],(.int .i64 3)),([61],(.int .i64 5)),([124,61],(.int .i64 5)),([43,61],(.int .i64 5)),([45,61],(.int .i64 5)),([42,61],(.int .i64 5)),([47,61],(.int .i64 5)),([37,61],(.int .i64 5)),([47,47,61],(.int .i64 5)),([111,114],(.int .i64 6)),([97,110,100],(.int .i64 7)),([61,61],(.int .i64 8)),([33,61],(.int .i64 8)),([60],(.int .i64 8)),([60,61],(.int .i64 8)),([62],(.int .i64 8)),([62,61],(.int .i64 8)),([43],(.int .i64 9)),([45],(.int .i64 9)),([42],(.int .i64 10)),([47],(.int .i64 10)),([37],(.int .i64 10))]
theorem yf1:ckT Tryz.prog E1 1000000 232 KK0=true:=by kernel_rfl
def KL0:List (List UInt8×V):=[([],(.int .i64 0)),([124],(.int .i64 2)),([44],(.int .i64 1)),([47,47],(.int .i64 2)),([61],(.int .i64 0)),([124,61],(.int .i64 0)),([43,61],(.int .i64 0)),([45,61],(.int .i64 0)),([42,61],(.int .i64 0)),([47,61],(.int .i64 0)),([37,61],(.int .i64 0)),([47,47,61],(.int .i64 0)),([111,114],(.int .i64 1)),([97,110,100],(.int .i64 1)),([61,61],(.int .i64 0)),([33,61],(.int .i64 0)),([60],(.int .i64 0)),([60,61],(.int .i64 0)),([62],(.int .i64 0)),([62,61],(.int .i64 0)),([43],(.int .i64 1)),([45],(.int .i64 1)),([42],(.int .i64 1)),([47],(.int .i64 1)),([37],(.int .i64 1))]
theorem yg1:ckT Tryz.prog E1 1000000 260 KL0=true:=by kernel_rfl
def Kb0:List (FuncId×List (List UInt8×V)):=[(292,JK0),(173,KJ0),(232,KK0),(260,KL0)]
noncomputable def E2:Env:={ EK0 with prim:=QM0 Kb0 [] }
theorem prim2:zI0 Tryz.prog E2:=YU0 (TT:=Kb0) (T0:=[]) rfl (fun p hp=>by
 simp only [Kb0,List.mem_cons,List.not_mem_nil,or_false] at hp
 rcases hp with rfl | rfl | rfl | rfl
 ·exact zX0 snd0 KI0
 ·exact zX0 snd1 yc1
 ·exact zX0 snd1 yf1
 ·exact zX0 snd1 yg1
 ) (fun q hq=>by cases hq)
theorem snd2:Snd Tryz.prog E2 (run Tryz.prog E2 1000000):=Ju0 names prim2 _
def yd1:List (List UInt8×V):=[([46],(.tup [(.agg [(.int .i64 1),(.str []),.nils]),(.int .u16 0),(.int .i64 0)]))]
theorem ye1:ckT Tryz.prog E2 1000000 16 yd1=true:=by kernel_rfl
def Kc0:List (FuncId×List (List UInt8×V)):=[(292,JK0),(173,KJ0),(232,KK0),(260,KL0),(16,yd1)]
noncomputable def E3:Env:={ EK0 with prim:=QM0 Kc0 [] }
theorem prim3:zI0 Tryz.prog E3:=YU0 (TT:=Kc0) (T0:=[]) rfl (fun p hp=>by
 simp only [Kc0,List.mem_cons,List.not_mem_nil,or_false] at hp
 rcases hp with rfl | rfl | rfl | rfl | rfl
 ·exact zX0 snd0 KI0
 ·exact zX0 snd1 yc1
 ·exact zX0 snd1 yf1
 ·exact zX0 snd1 yg1
 ·exact zX0 snd2 ye1
 ) (fun q hq=>by cases hq)
theorem snd3:Snd Tryz.prog E3 (run Tryz.prog E3 1000000):=Ju0 names prim3 _
theorem globOk {S:Nat→Nat→Option Value} (h:∀ i,i<256→S 3 i=some (.int .u8 (asciiZ.getD i 0))):GlobOk YD0 S:=by
 intro gl x hx
 unfold YD0 at hx
 obtain ⟨hb,hx⟩:=qd0 hx rfl
 rw [Nat.beq_eq] at hb;subst hb
 cases hx
 rw [yH1]
 exact tab_gr (by kernel_rfl) (by decide) h
def known0:List (FuncId×V):=[(8,.bool true)]
theorem Zs1:ck0 Tryz.prog E3 1000000 known0=true:=by kernel_rfl
theorem YT1:∀ q,q∈Km0→PureOk PP EP.glob q.1 [] q.2:=ju1 snd3 Zs1
theorem XH1:∀ p,p∈tabP→∀ q,q∈p.2→PureOk PP EP.glob p.1 [.str q.1] q.2:=fun p hp=>by
 simp only [tabP,List.mem_cons,List.not_mem_nil,or_false] at hp
 subst hp
 exact zX0 snd2 ye1
theorem primP:zI0 PP EP:=YU0 (TT:=tabP) (T0:=Km0) rfl XH1 YT1
/-- A machine's run is a contract. -/
theorem cx_rn {P:Program} {E:Env} {C:Cf} {N:Nat} {f:FuncId} {args:List V} {h h':Heap} {v:V} (hr:rn P E C N (.call f args h)=.ret v h') {R':V→Heap→Prop} (hR:R' v h'):Cx P E f args h R':=fun hF _ _ _ _ cs us hW hG hs=>⟨v,h',hR,by
 have:=(rn_snd (C:=C) hF.names hF.prim N).call cs f args us hW hG hs
 rw [hr] at this
 exact this⟩
theorem modsOrdered_walk (N0:Nat) (h0:N0<256) (N1:Nat) (h1:N1<256) (c:Bool):Cx PP EP 3 [.int .u8 (N0:Int),.int .u8 (N1:Int),.bool c] Heap.empty (fun v _=>v=.bool true):=by
 obtain ⟨m,h⟩:=Yj1 N0 N1 (by omega) (by omega) (by omega) (by omega) c
 exact cx_rn (h m (Nat.le_refl m)) rfl
end Go.AM
