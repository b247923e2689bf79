/-
  PLAIN LAWS, with no program in sight; what stands around the machine in this seat. No condition but what each theorem says.
-/
import Derived.Test.YtejbaikaiifpaaaDoorProg
import Derived.Test.YtejbaikaiifpaaaDoorLaysP5
namespace Go.AM
def z7:List UInt8→List (List UInt8)
 | []=>[[]]
 | c::s=>if c=10 then []::z7 s else match z7 s with
  | l::ls=>(c::l)::ls
  | []=>[[c]]
theorem x88 (s:List UInt8):z7 s≠[]:=by
 cases s with
 | nil=>simp [z7]
 | cons c s=>unfold z7;split <;> (try split) <;> simp
theorem qr3 (s:List UInt8):z7 (10::s)=[]::z7 s:=by simp [z7]
theorem qa7 {c:UInt8} {s l:List UInt8} {ls:List (List UInt8)} (h:c≠10) (e:z7 s=l::ls):z7 (c::s)=(c::l)::ls:=by
 rw [z7,if_neg h,e]
theorem qz8 (s:List UInt8):∃ l ls,z7 s=l::ls:=by
 cases h:z7 s with
 | nil=>exact absurd h (x88 s)
 | cons l ls=>exact ⟨l,ls,rfl⟩
theorem qx9 (s:List UInt8):(z7 s).length=s.count 10+1:=by
 induction s with
 | nil=>rfl
 | cons c s IH =>
  by_cases h:c=10
  ·rw [h,qr3];simp [IH]
  ·obtain ⟨l,ls,e⟩:=qz8 s
   rw [qa7 h e,List.count_cons_of_ne h]
   rw [e] at IH;simpa using IH
theorem xf4 (s:List UInt8):∀ l∈z7 s,l.length≤s.length:=by
 induction s with
 | nil=>simp [z7]
 | cons c s IH =>
  by_cases h:c=10
  ·rw [h,qr3];intro l hl
   rcases List.mem_cons.1 hl with rfl | hl
   ·simp
   ·have:=IH l hl;simp;omega
  ·obtain ⟨l,ls,e⟩:=qz8 s
   rw [qa7 h e]
   rw [e] at IH
   intro x hx
   rcases List.mem_cons.1 hx with rfl | hx
   ·have:=IH l (by simp);simp;omega
   ·have:=IH x (by simp [hx]);simp;omega
theorem qv0 (a s:List UInt8) (h:(10:UInt8)∉a):z7 (a++10::s)=a::z7 s:=by
 induction a with
 | nil=>exact qr3 s
 | cons c a IH =>
  simp only [List.mem_cons,not_or] at h
  rw [List.cons_append,qa7 (fun e=>h.1 e.symm) (IH h.2)]
theorem qu7 (a:List UInt8) (h:(10:UInt8)∉a):z7 a=[a]:=by
 induction a with
 | nil=>rfl
 | cons c a IH =>
  simp only [List.mem_cons,not_or] at h
  rw [qa7 (fun e=>h.1 e.symm) (IH h.2)]
def q21:Nat→List UInt8→Nat
 | k,[]=>k
 | k,b::l=>if b=10 then q21 0 l else q21 (k+1) l
def q66 (l:List UInt8):Nat:=q21 0 l
theorem zq2 (l:List UInt8) (b:UInt8):∀ k,q21 k (l++[b])=if b=10 then 0 else q21 k l+1:=by
 induction l with
 | nil=>intro k;simp [q21]
 | cons a l IH=>intro k;simp only [List.cons_append,q21];split <;> exact IH _
theorem zx7 (l:List UInt8) (b:UInt8):q66 (l++[b])=if b=10 then 0 else q66 l+1:=zq2 l b 0
theorem x24 (l:List UInt8) (h:(10:UInt8)∉l):∀ k,q21 k l=k+l.length:=by
 induction l with
 | nil=>intro k;rfl
 | cons a l IH =>
  intro k
  simp only [List.mem_cons,not_or] at h
  rw [q21,if_neg (fun e=>h.1 e.symm),IH h.2];simp;omega
theorem xa7 (l:List UInt8):q66 l≤l.length:=by
 have:∀ k,q21 k l≤k+l.length:=by
  induction l with
  | nil=>intro k;exact Nat.le_refl _
  | cons a l IH =>
   intro k
   simp only [q21,List.length_cons]
   split
   ·have:=IH 0;omega
   ·have:=IH (k+1);omega
 have:=this 0
 unfold q66;omega
def j6 (c:UInt8):List UInt8→Int
 | []=>-1
 | b::l=>if 0≤j6 c l then j6 c l+1 else if b=c then 0 else -1
theorem ze2 (c:UInt8) (l:List UInt8):-1≤j6 c l∧j6 c l<l.length:=by
 induction l with
 | nil=>simp [j6]
 | cons b l IH =>
  simp only [j6,List.length_cons]
  split
  ·omega
  ·split <;> omega
theorem qz6 (c b:UInt8) (l:List UInt8):j6 c (l++[b])=if b=c then (l.length:Int) else j6 c l:=by
 induction l with
 | nil=>simp [j6]
 | cons a l IH =>
  simp only [List.cons_append,j6,IH]
  by_cases hb:b=c
  ·simp only [if_pos hb]
   rw [if_pos (by omega)];simp
  ·simp only [if_neg hb]
theorem xp5 (s:List UInt8) (n:Nat):n≤s.length→(n:Int)-1-j6 10 (s.take n)=q66 (s.take n):=by
 induction n with
 | zero=>intro _;rfl
 | succ n IH =>
  intro h
  have h':n<s.length:=h
  rw [List.take_succ_eq_append_getElem h',qz6,zx7]
  have:=IH (by omega)
  by_cases hb:s[n]=10
  ·rw [if_pos hb,if_pos hb];simp;omega
  ·rw [if_neg hb,if_neg hb];omega
theorem qf2 (s:List UInt8) (h:(10:UInt8)∉s):∀ i,z0 10 s i=-1:=by
 induction s with
 | nil=>intro i;rfl
 | cons b s IH =>
  intro i
  simp only [List.mem_cons,not_or] at h
  change (bif q32 b 10 then Int.ofNat i else z0 10 s (Nat.succ i))=-1
  rw [qt4,beq_eq_false_iff_ne.2 (fun e=>h.1 e.symm)]
  exact IH h.2 _
theorem q77 (s:List UInt8) (h:(10:UInt8)∈s):∃ a t,s=a++10::t∧(10:UInt8)∉a∧∀ i,z0 10 s i=((a.length+i:Nat):Int):=by
 induction s with
 | nil=>cases h
 | cons b s IH =>
  by_cases hb:b=10
  ·subst hb
   exact ⟨[],s,rfl,by simp,fun i=>by
    change (bif q32 10 10 then Int.ofNat i else z0 10 s (Nat.succ i))=_
    rw [qt4];simp⟩
  ·obtain ⟨a,t,e,hn,hf⟩:=IH (by
    rcases List.mem_cons.1 h with q | q
    ·exact absurd q.symm hb
    ·exact q)
   refine ⟨b::a,t,by rw [e];rfl,by simp only [List.mem_cons,not_or];exact ⟨fun q=>hb q.symm,hn⟩,fun i=>?_⟩
   change (bif q32 b 10 then Int.ofNat i else z0 10 s (Nat.succ i))=_
   rw [qt4,beq_eq_false_iff_ne.2 hb,hf]
   simp only [cond_false,List.length_cons];omega
theorem qn4 {s:List UInt8} {k:Nat} (hk:k<s.length):q8 s (k:Int)=10↔s[k]=10:=by
 unfold q8
 rw [Int.toNat_natCast,List.getD_eq_getElem?_getD,List.getElem?_eq_getElem hk,Option.getD_some]
 constructor
 ·intro h;exact UInt8.toNat_inj.1 (show s[k].toNat=10 by omega)
 ·intro h;rw [h];rfl
theorem x32 {s:List UInt8} {k:Nat} (h0:0<k) (hk:k≤s.length) (c:q8 s ((k:Int)-1)=10):j6 10 (s.take k)=(k:Int)-1:=by
 obtain ⟨j,rfl⟩:∃ j,k=j+1:=⟨k-1,by omega⟩
 rw [show ((j+1:Nat):Int)-1=(j:Int) by omega] at c ⊢
 rw [List.take_succ_eq_append_getElem (show j<s.length from hk),qz6,if_pos ((qn4 hk).1 c),List.length_take,Nat.min_eq_left (by omega)]
theorem xn5 {s:List UInt8} {k:Nat} (h0:0<k) (hk:k≤s.length) (c:¬ q8 s ((k:Int)-1)=10):j6 10 (s.take k)=j6 10 (s.take (k-1)):=by
 obtain ⟨j,rfl⟩:∃ j,k=j+1:=⟨k-1,by omega⟩
 rw [show ((j+1:Nat):Int)-1=(j:Int) by omega] at c
 rw [List.take_succ_eq_append_getElem (show j<s.length from hk),qz6,if_neg (fun e=>c ((qn4 hk).2 e))]
 rfl
def j07 (s:List UInt8) (p:Int):Prop:=0≤p∧p≤s.length
instance (s:List UInt8) (p:Int):Decidable (j07 s p):=inferInstanceAs (Decidable (_∧_))
def j83 (s:List UInt8) (l c:Int):Prop:=0≤l∧0≤c∧l<(z7 s).length∧c≤((z7 s).getD l.toNat []).length
instance (s:List UInt8) (l c:Int):Decidable (j83 s l c):=inferInstanceAs (Decidable (_∧_∧_∧_))
theorem qp0 (s:List UInt8):-1≤z0 10 s 0∧z0 10 s 0<s.length:=by
 by_cases h:(10:UInt8)∈s
 ·obtain ⟨a,t,e,_,hf⟩:=q77 s h
  rw [hf,e];simp;omega
 ·rw [qf2 s h];omega
theorem z41 (s:List UInt8) (h:z0 10 s 0<0):z7 s=[s]:=by
 refine qu7 s fun hm=>?_
 obtain ⟨a,t,e,_,hf⟩:=q77 s hm
 rw [hf] at h;omega
theorem z08 (s:List UInt8) (h:¬ z0 10 s 0<0):z7 s=s.take (z0 10 s 0+0).toNat::z7 (s.drop (z0 10 s 0+1).toNat):=by
 by_cases hm:(10:UInt8)∈s
 ·obtain ⟨a,t,e,hn,hf⟩:=q77 s hm
  have h1:(z0 10 s 0+0).toNat=a.length:=by rw [hf];omega
  have h2:(z0 10 s 0+1).toNat=a.length+1:=by rw [hf];omega
  rw [h1,h2,e,List.take_left,qv0 a t hn]
  have:(a++10::t).drop (a.length+1)=t:=by
   rw [show a++(10:UInt8)::t=(a++[10])++t by simp]
   exact List.drop_left' (by simp)
  rw [this]
 ·rw [qf2 s hm] at h;omega
theorem zk7 (s:List UInt8) (j:Nat):((z7 s).getD j []).length≤s.length:=by
 rw [List.getD_eq_getElem?_getD]
 cases h:(z7 s)[j]? with
 | none=>exact Nat.zero_le _
 | some l=>exact xf4 s l (List.mem_of_getElem? h)
end Go.AM
namespace Go.AM
def dec (s:List UInt8):Nat×Nat:=Utf8.decode ⟨⟨s⟩⟩ 0
def decG (b0 b1 b2 b3:Nat) (c1 c2 c3:Bool):Nat×Nat :=
 if b0<0x80 then (b0,1)
 else if b0/32 == 6&&(c1&&b1/64 == 2) then
  if b0%32*64+b1%64 ≥ 0x80 then (b0%32*64+b1%64,2) else (65533,1)
 else if b0/16 == 14&&(c1&&b1/64 == 2)&&(c2&&b2/64 == 2) then
  if b0%16*4096+b1%64*64+b2%64 ≥ 0x800&&Utf8.valid (b0%16*4096+b1%64*64+b2%64:Nat) then (b0%16*4096+b1%64*64+b2%64,3) else (65533,1)
 else if b0/8 == 30&&(c1&&b1/64 == 2)&&(c2&&b2/64 == 2)&&(c3&&b3/64 == 2) then
  if b0%8*262144+b1%64*4096+b2%64*64+b3%64 ≥ 0x10000&&Utf8.valid (b0%8*262144+b1%64*4096+b2%64*64+b3%64:Nat) then (b0%8*262144+b1%64*4096+b2%64*64+b3%64,4) else (65533,1)
 else (65533,1)
def atN (s:List UInt8) (k:Nat):Nat:=(s.getD k 0).toNat
theorem xn1 (s:List UInt8) (j:Nat):(ByteArray.mk ⟨s⟩).get! j=s.getD j 0:=by
 simp [ByteArray.get!,List.getD_eq_getElem?_getD]
 rfl
theorem xl4 (s:List UInt8):(ByteArray.mk ⟨s⟩).size=s.length:=rfl
theorem zb0 (s:List UInt8) (i:Nat):Utf8.decode ⟨⟨s⟩⟩ i=decG (atN s i) (atN s (i+1)) (atN s (i+2)) (atN s (i+3)) (decide (i+1<s.length)) (decide (i+2<s.length)) (decide (i+3<s.length)):=by
 unfold Utf8.decode decG atN
 simp only [xn1,xl4,Nat.add_zero,Utf8.runeError]
theorem qr2 (s:List UInt8):dec s=decG (atN s 0) (atN s 1) (atN s 2) (atN s 3) (decide (1<s.length)) (decide (2<s.length)) (decide (3<s.length)):=by
 have:=zb0 s 0
 simp only [Nat.zero_add] at this
 exact this
theorem xq2 (s:List UInt8) (i k:Nat):atN (s.drop i) k=atN s (i+k):=by
 unfold atN
 rw [List.getD_eq_getElem?_getD,List.getD_eq_getElem?_getD,List.getElem?_drop]
theorem x25 (s:List UInt8) (i:Nat):Utf8.decode ⟨⟨s⟩⟩ i=dec (s.drop i):=by
 rw [zb0,qr2]
 simp only [xq2,List.length_drop,Nat.add_zero]
 congr 1 <;> rw [decide_eq_decide] <;> omega
theorem zn4 (s:List UInt8) (i:Nat):qe4 s i=(dec (s.drop i)).2:=by unfold qe4;rw [x25]
def badP:Nat×Nat:=(65533,1)
theorem zm6 {b0 b1 b2 b3:Nat} {c1 c2 c3:Bool} (h:decG b0 b1 b2 b3 c1 c2 c3≠badP) :
  (b0<0x80∧decG b0 b1 b2 b3 c1 c2 c3=(b0,1)∧∀ b1' b2' b3' c1' c2' c3',decG b0 b1' b2' b3' c1' c2' c3'=(b0,1)) ∨
  (c1=true∧(decG b0 b1 b2 b3 c1 c2 c3).2=2∧∀ b2' b3' c2' c3',decG b0 b1 b2' b3' true c2' c3'=decG b0 b1 b2 b3 c1 c2 c3) ∨
  (c1=true∧c2=true∧(decG b0 b1 b2 b3 c1 c2 c3).2=3∧∀ b3' c3',decG b0 b1 b2 b3' true true c3'=decG b0 b1 b2 b3 c1 c2 c3) ∨
  (c1=true∧c2=true∧c3=true∧(decG b0 b1 b2 b3 c1 c2 c3).2=4):=by
 by_cases h0:b0<0x80
 ·exact .inl ⟨h0,by unfold decG;rw [if_pos h0],fun _ _ _ _ _ _=>by unfold decG;rw [if_pos h0]⟩
 refine .inr ?_
 by_cases h1:(b0/32 == 6&&(c1&&b1/64 == 2))=true
 ·refine .inl ?_
  have hc:c1=true:=by simp only [Bool.and_eq_true] at h1;exact h1.2.1
  subst hc
  have e:∀ b2' b3' c2' c3',decG b0 b1 b2' b3' true c2' c3'=if b0%32*64+b1%64 ≥ 0x80 then (b0%32*64+b1%64,2) else (65533,1):=fun _ _ _ _=>by
   unfold decG;rw [if_neg h0,if_pos h1]
  rw [e] at h ⊢
  refine ⟨rfl,?_,fun _ _ _ _=>e _ _ _ _⟩
  split
  ·rfl
  ·rename_i hh;rw [if_neg hh] at h;exact absurd rfl h
 refine .inr ?_
 by_cases h2:(b0/16 == 14&&(c1&&b1/64 == 2)&&(c2&&b2/64 == 2))=true
 ·refine .inl ?_
  have hc:c1=true∧c2=true:=by simp only [Bool.and_eq_true] at h2;exact ⟨h2.1.2.1,h2.2.1⟩
  obtain ⟨rfl,rfl⟩:=hc
  have e:∀ b3' c3',decG b0 b1 b2 b3' true true c3'=if b0%16*4096+b1%64*64+b2%64 ≥ 0x800&&Utf8.valid (b0%16*4096+b1%64*64+b2%64:Nat) then (b0%16*4096+b1%64*64+b2%64,3) else (65533,1):=fun _ _=>by
   unfold decG;rw [if_neg h0,if_neg h1,if_pos h2]
  rw [e] at h ⊢
  refine ⟨rfl,rfl,?_,fun _ _=>e _ _⟩
  split
  ·rfl
  ·rename_i hh;rw [if_neg hh] at h;exact absurd rfl h
 refine .inr ?_
 by_cases h3:(b0/8 == 30&&(c1&&b1/64 == 2)&&(c2&&b2/64 == 2)&&(c3&&b3/64 == 2))=true
 ·have hc:c1=true∧c2=true∧c3=true:=by simp only [Bool.and_eq_true] at h3;exact ⟨h3.1.1.2.1,h3.1.2.1,h3.2.1⟩
  obtain ⟨rfl,rfl,rfl⟩:=hc
  refine ⟨rfl,rfl,rfl,?_⟩
  unfold decG at h ⊢
  rw [if_neg h0,if_neg h1,if_neg h2,if_pos h3] at h ⊢
  split
  ·rfl
  ·rename_i hh;rw [if_neg hh] at h;exact absurd rfl h
 ·exfalso
  unfold decG at h
  rw [if_neg h0,if_neg h1,if_neg h2,if_neg h3] at h
  exact absurd rfl h
theorem z88 (s:List UInt8):1≤(dec s).2:=by
 by_cases h:dec s=badP
 ·rw [h];exact Nat.le_refl _
 ·rw [qr2] at h ⊢
  rcases zm6 h with ⟨_,e,_⟩ | ⟨_,e,_⟩ | ⟨_,_,e,_⟩ | ⟨_,_,_,e⟩ <;> rw [e] <;> simp
theorem zt8 {s:List UInt8} (hs:s≠[]):(dec s).2≤s.length:=by
 have h0:0<s.length:=List.length_pos_iff.2 hs
 by_cases h:dec s=badP
 ·rw [h];exact h0
 ·rw [qr2] at h ⊢
  rcases zm6 h with ⟨_,e,_⟩ | ⟨c,e,_⟩ | ⟨_,c,e,_⟩ | ⟨_,_,c,e⟩ <;> rw [e]
  ·exact h0
  ·exact of_decide_eq_true c
  ·exact of_decide_eq_true c
  ·exact of_decide_eq_true c
theorem zk2 {s:List UInt8} (hs:s≠[]):(s.drop (dec s).2).length<s.length:=by
 have h0:0<s.length:=List.length_pos_iff.2 hs
 have:=z88 s
 rw [List.length_drop];omega
def wide (s:List UInt8):Nat :=
 if h:s=[] then 0 else wide (s.drop (dec s).2)+1
termination_by s.length
decreasing_by all_goals exact zk2 h
theorem z06:wide []=0:=by rw [wide,dif_pos rfl]
theorem qs7 {s:List UInt8} (hs:s≠[]):wide s=wide (s.drop (dec s).2)+1:=by rw [wide,dif_neg hs]
theorem xr8 {p:List UInt8→Prop} (h0:p []) (h1:∀ s,s≠[]→p (s.drop (dec s).2)→p s) (s:List UInt8):p s:=by
 have key:∀ n (s:List UInt8),s.length=n→p s:=by
  intro n
  induction n using Nat.strongRecOn with
  | _ n IH =>
   intro s hn
   by_cases hs:s=[]
   ·rw [hs];exact h0
   ·exact h1 s hs (IH _ (by rw [← hn];exact zk2 hs) _ rfl)
 exact key _ s rfl
theorem q15 (s:List UInt8):wide s≤s.length:=by
 induction s using xr8 with
 | h0=>rw [z06];exact Nat.zero_le _
 | h1 s hs IH =>
  have h0:0<s.length:=List.length_pos_iff.2 hs
  rw [qs7 hs]
  have:=zk2 hs
  omega
theorem x52 {s:List UInt8} {p:Nat} (h:p<s.length):s.drop p≠[]:=fun e=>by
 have:=congrArg List.length e
 simp at this;omega
theorem j26 {s:List UInt8} {p:Nat} (h:p<s.length):p+qe4 s p≤s.length∧1≤qe4 s p:=by
 have h1:=zt8 (x52 h)
 have h2:=z88 (s.drop p)
 rw [zn4]
 rw [List.length_drop] at h1
 omega
theorem xn4 {s:List UInt8} {p:Nat} (h:p<s.length):wide (s.drop p)=wide (s.drop (p+qe4 s p))+1:=by
 rw [qs7 (x52 h),zn4,List.drop_drop]
end Go.AM
namespace Go.AM
def zs1 (c:Nat):Int:=if c<128 then 0 else if 194≤c∧c≤223 then 1 else if 224≤c∧c≤239 then 2 else if 240≤c∧c≤244 then 3 else -1
def one (s:List UInt8):Nat:=if s=[] then 0 else if dec s=badP then 0 else (dec s).2
def oneG (b0 b1 b2 b3:Nat) (c1 c2 c3:Bool):Nat:=if decG b0 b1 b2 b3 c1 c2 c3=badP then 0 else (decG b0 b1 b2 b3 c1 c2 c3).2
theorem zf2 {s:List UInt8} (hs:s≠[]):one s=oneG (atN s 0) (atN s 1) (atN s 2) (atN s 3) (decide (1<s.length)) (decide (2<s.length)) (decide (3<s.length)):=by
 unfold one oneG
 rw [if_neg hs,qr2]
theorem q85 (s:List UInt8) (k:Nat):atN s k<256:=UInt8.toNat_lt _
section
variable {b0 b1 b2 b3:Nat} {c1 c2 c3:Bool}
theorem j41 (h:b0<128):oneG b0 b1 b2 b3 c1 c2 c3=1:=by
 have e:decG b0 b1 b2 b3 c1 c2 c3=(b0,1):=by unfold decG;rw [if_pos h]
 unfold oneG badP
 rw [e,if_neg (by intro q;simp at q;omega)]
theorem z03 (h:decG b0 b1 b2 b3 c1 c2 c3=badP):oneG b0 b1 b2 b3 c1 c2 c3=0:=by unfold oneG;rw [if_pos h]
theorem xo6 (h:zs1 b0=-1) (hb:b0<256):oneG b0 b1 b2 b3 c1 c2 c3=0:=by
 have h0:128≤b0∧b0≤193∨245≤b0:=by
  unfold zs1 at h
  repeat' split at h
  all_goals omega
 refine z03 ?_
 unfold decG badP
 rw [if_neg (by omega)]
 split
 ·rename_i h1
  simp only [Bool.and_eq_true,beq_iff_eq] at h1
  rw [if_neg (by omega)]
 ·split
  ·rename_i h1
   simp only [Bool.and_eq_true,beq_iff_eq] at h1
   omega
  ·split
   ·rename_i h1
    simp only [Bool.and_eq_true,beq_iff_eq] at h1
    rw [if_neg]
    intro q
    simp only [Utf8.valid,Bool.and_eq_true,Bool.or_eq_true,decide_eq_true_eq] at q
    omega
   ·rfl
theorem xi8 (h:194≤b0∧b0≤223):oneG b0 b1 b2 b3 c1 c2 c3=if c1=true∧128≤b1∧b1≤191 then 2 else 0:=by
 by_cases hc:c1=true∧128≤b1∧b1≤191
 ·rw [if_pos hc]
  have e:decG b0 b1 b2 b3 c1 c2 c3=(b0%32*64+b1%64,2):=by
   unfold decG
   rw [if_neg (by omega),if_pos (by simp only [Bool.and_eq_true,beq_iff_eq];exact ⟨by omega,hc.1,by omega⟩),if_pos (by omega)]
  unfold oneG badP
  rw [e,if_neg (by intro q;simp at q)]
 ·rw [if_neg hc]
  refine z03 ?_
  unfold decG badP
  rw [if_neg (by omega),if_neg (by simp only [Bool.and_eq_true,beq_iff_eq];rintro ⟨_,q1,q2⟩;exact hc ⟨q1,by omega⟩),if_neg (by simp only [Bool.and_eq_true,beq_iff_eq];omega),if_neg (by simp only [Bool.and_eq_true,beq_iff_eq];omega)]
theorem xm1 (h:224≤b0∧b0≤239):oneG b0 b1 b2 b3 c1 c2 c3=if c1=true∧c2=true∧(128≤b1∧b1≤191)∧(128≤b2∧b2≤191)∧2048≤b0%16*4096+b1%64*64+b2%64∧¬ (55296≤b0%16*4096+b1%64*64+b2%64∧b0%16*4096+b1%64*64+b2%64≤57343) then 3 else 0:=by
 by_cases hc:(b0/16 == 14&&(c1&&b1/64 == 2)&&(c2&&b2/64 == 2))=true
 ·have hc':=hc
  simp only [Bool.and_eq_true,beq_iff_eq] at hc'
  have e:decG b0 b1 b2 b3 c1 c2 c3=if b0%16*4096+b1%64*64+b2%64 ≥ 0x800&&Utf8.valid (b0%16*4096+b1%64*64+b2%64:Nat) then (b0%16*4096+b1%64*64+b2%64,3) else (65533,1):=by
   unfold decG
   rw [if_neg (by omega),if_neg (by simp only [Bool.and_eq_true,beq_iff_eq];omega),if_pos hc]
  unfold oneG badP
  rw [e]
  by_cases hv:(decide (b0%16*4096+b1%64*64+b2%64 ≥ 0x800)&&Utf8.valid (b0%16*4096+b1%64*64+b2%64:Nat))=true
  ·rw [if_pos hv,if_neg (by intro q;simp at q)]
   simp only [Utf8.valid,Bool.and_eq_true,Bool.or_eq_true,decide_eq_true_eq] at hv
   rw [if_pos ⟨hc'.1.2.1,hc'.2.1,by omega,by omega,by omega,by omega⟩]
  ·rw [if_neg hv,if_pos rfl,if_neg]
   rintro ⟨_,_,_,_,q1,q2⟩
   refine hv ?_
   simp only [Utf8.valid,Bool.and_eq_true,Bool.or_eq_true,decide_eq_true_eq]
   omega
 ·rw [if_neg (by
   rintro ⟨q1,q2,q3,q4,_⟩
   refine hc ?_
   simp only [Bool.and_eq_true,beq_iff_eq]
   exact ⟨⟨by omega,q1,by omega⟩,q2,by omega⟩)]
  refine z03 ?_
  unfold decG badP
  rw [if_neg (by omega),if_neg (by simp only [Bool.and_eq_true,beq_iff_eq];omega),if_neg hc,if_neg (by simp only [Bool.and_eq_true,beq_iff_eq];omega)]
theorem xg2 (h:240≤b0∧b0≤244):oneG b0 b1 b2 b3 c1 c2 c3=if c1=true∧c2=true∧c3=true∧(128≤b1∧b1≤191)∧(128≤b2∧b2≤191)∧(128≤b3∧b3≤191)∧65536≤b0%8*262144+b1%64*4096+b2%64*64+b3%64∧b0%8*262144+b1%64*4096+b2%64*64+b3%64≤1114111 then 4 else 0:=by
 by_cases hc:(b0/8 == 30&&(c1&&b1/64 == 2)&&(c2&&b2/64 == 2)&&(c3&&b3/64 == 2))=true
 ·have hc':=hc
  simp only [Bool.and_eq_true,beq_iff_eq] at hc'
  have e:decG b0 b1 b2 b3 c1 c2 c3=if b0%8*262144+b1%64*4096+b2%64*64+b3%64 ≥ 0x10000&&Utf8.valid (b0%8*262144+b1%64*4096+b2%64*64+b3%64:Nat) then (b0%8*262144+b1%64*4096+b2%64*64+b3%64,4) else (65533,1):=by
   unfold decG
   rw [if_neg (by omega),if_neg (by simp only [Bool.and_eq_true,beq_iff_eq];omega),if_neg (by simp only [Bool.and_eq_true,beq_iff_eq];omega),if_pos hc]
  unfold oneG badP
  rw [e]
  by_cases hv:(decide (b0%8*262144+b1%64*4096+b2%64*64+b3%64 ≥ 0x10000)&&Utf8.valid (b0%8*262144+b1%64*4096+b2%64*64+b3%64:Nat))=true
  ·rw [if_pos hv,if_neg (by intro q;simp at q)]
   simp only [Utf8.valid,Bool.and_eq_true,Bool.or_eq_true,decide_eq_true_eq] at hv
   rw [if_pos ⟨hc'.1.1.2.1,hc'.1.2.1,hc'.2.1,by omega,by omega,by omega,by omega,by omega⟩]
  ·rw [if_neg hv,if_pos rfl,if_neg]
   rintro ⟨_,_,_,_,_,_,q1,q2⟩
   refine hv ?_
   simp only [Utf8.valid,Bool.and_eq_true,Bool.or_eq_true,decide_eq_true_eq]
   omega
 ·rw [if_neg (by
   rintro ⟨q1,q2,q3,q4,q5,q6,_⟩
   refine hc ?_
   simp only [Bool.and_eq_true,beq_iff_eq]
   exact ⟨⟨⟨by omega,q1,by omega⟩,q2,by omega⟩,q3,by omega⟩)]
  refine z03 ?_
  unfold decG badP
  rw [if_neg (by omega),if_neg (by simp only [Bool.and_eq_true,beq_iff_eq];omega),if_neg (by simp only [Bool.and_eq_true,beq_iff_eq];omega),if_neg hc]
end
theorem j40 (s:List UInt8):one s≤s.length:=by
 unfold one
 split
 ·exact Nat.zero_le _
 ·rename_i h
  split
  ·exact Nat.zero_le _
  ·exact zt8 h
theorem xz0 {s:List UInt8} (hs:s≠[]):max (one s) 1=(dec s).2:=by
 unfold one
 rw [if_neg hs]
 split
 ·rename_i h;rw [h];rfl
 ·have:=z88 s;omega
end Go.AM
namespace Go.AM
def w7 (ls:List (List UInt8)):Nat→Nat
 | 0=>0
 | k+1=>max (w7 ls k) (wide (ls.getD k []))
def qf8 (s:List UInt8):Nat:=w7 (z7 s) (z7 s).length
theorem zb9 (s:List UInt8) (n:Nat):w7 (z7 s) n≤s.length:=by
 induction n with
 | zero=>exact Nat.zero_le _
 | succ n IH =>
  have h1:=q15 ((z7 s).getD n [])
  have h2:=zk7 s n
  simp only [w7];omega
def j2 (k:Nat):List UInt8:=List.replicate k 32
theorem zq3 (k:Nat):j2 (k+1)=j2 k++[32]:=by
 unfold j2
 rw [List.replicate_succ']
theorem q37 (k:Nat):(j2 k).length=k:=by unfold j2;simp
theorem za6 (k:Nat):wide (j2 k)=k:=by
 induction k with
 | zero=>exact z06
 | succ k IH =>
  have hd:dec (j2 (k+1))=(32,1):=by
   rw [qr2]
   have:atN (j2 (k+1)) 0=32:=rfl
   rw [this]
   unfold decG
   rw [if_pos (by decide)]
  rw [qs7 (by intro q;have:=congrArg List.length q;rw [q37] at this;cases this),hd]
  have:(j2 (k+1)).drop 1=j2 k:=rfl
  rw [this,IH]
end Go.AM
namespace Go.AM
structure Dc where
 kind:Int
 text:List UInt8
 n:Int
 kids:List Dc
structure Th where
 d:Dc
 flat:Bool
 n:Int
def z6 (t:Th) (flat:Bool):List Th:=t.d.kids.map fun k=>⟨k,flat,t.n+t.d.n⟩
noncomputable def w8:List Th→Nat
 | []=>0
 | t::l=>SizeOf.sizeOf t.d+w8 l
theorem xm0 (a b:List Th):w8 (a++b)=w8 a+w8 b:=by
 induction a with
 | nil=>simp [w8]
 | cons t a IH=>simp only [List.cons_append,w8,IH];omega
theorem xl2 (d:Dc):0<SizeOf.sizeOf d:=by cases d;simp only [Dc.mk.sizeOf_spec];omega
theorem xd1 (t:Th) (flat:Bool):w8 (z6 t flat)<SizeOf.sizeOf t.d:=by
 have:∀ (l:List Dc) m,w8 (l.map fun k=>(⟨k,flat,m⟩:Th))<SizeOf.sizeOf l:=by
  intro l m
  induction l with
  | nil=>simp [w8]
  | cons d l IH=>simp only [List.map_cons,w8,List.cons.sizeOf_spec];omega
 have h:=this t.d.kids (t.n+t.d.n)
 unfold z6
 obtain ⟨d,fl,m⟩:=t
 cases d with
 | mk k x n l =>
  simp only [Dc.mk.sizeOf_spec] at h ⊢
  omega
theorem q02 (t:Th) (flat:Bool) (r:List Th):w8 (z6 t flat++r)<w8 (t::r):=by
 have:=xd1 t flat
 rw [xm0]
 simp only [w8];omega
theorem y9 (t:Th) (r:List Th):w8 r<w8 (t::r):=by
 have:=xl2 t.d
 simp only [w8];omega
def q01 (s:List UInt8):List UInt8:=(z7 s).getD 0 []
def q70 (s:List UInt8):List UInt8:=s.drop (s.length-q66 s)
def q65 (s:List UInt8):Bool:=decide ((10:UInt8)∈s)
def y1 (w:Int) (l:List Th) (col:Int):Bool :=
 if col≤w then
  match l with
  | []=>true
  | t::r =>
   if t.d.kind=1 then
    (if q65 t.d.text then decide (col+(wide (q01 t.d.text):Int)≤w) else y1 w r (col+(wide t.d.text:Int)))
   else if t.d.kind=4 then true
   else if t.d.kind=2∨t.d.kind=3 then (if t.flat then y1 w r (if t.d.kind=2 then col+1 else col) else true)
   else y1 w (z6 t t.flat++r) col
 else false
termination_by w8 l
decreasing_by
 ·exact y9 t r
 ·exact y9 t r
 ·exact q02 t _ r
theorem qp3 {d k:Dc} (h:k∈d.kids):SizeOf.sizeOf k<SizeOf.sizeOf d:=by
 cases d with
 | mk kd x n l =>
  have:=List.sizeOf_lt_of_mem (show k∈l from h)
  simp only [Dc.mk.sizeOf_spec];omega
def k8 (d:Dc):Bool:=decide (d.kind=4)||(decide (5≤d.kind)&&d.kids.attach.any fun k=>k8 k.1)
termination_by SizeOf.sizeOf d
decreasing_by exact qp3 k.2
def colS (s:List UInt8) (col:Int):Int:=if q65 s then (wide (q70 s):Int) else col+(wide s:Int)
def endS (n:Int):List UInt8:=10::j2 n.toNat
def layS (w:Int) (l:List Th) (col:Int):List UInt8 :=
 match l with
 | []=>[]
 | t::r =>
  if t.d.kind=1 then t.d.text++layS w r (colS t.d.text col)
  else if t.d.kind=2∨t.d.kind=3∨t.d.kind=4 then
   (if !t.flat||t.d.kind=4 then endS t.n++layS w r (t.n.toNat:Int)
   else if t.d.kind=2 then 32::layS w r (col+1)
   else layS w r col)
  else if t.d.kind=6 then
   (if !k8 t.d&&y1 w (z6 t true++r) col then layS w (z6 t true++r) col else layS w (z6 t t.flat++r) col)
  else layS w (z6 t t.flat++r) col
termination_by w8 l
decreasing_by
 all_goals first | exact y9 t r | exact q02 t _ r
def j7 (d:Dc):Prop:=0≤d.kind∧d.kind≤7∧(d.text≠[]↔d.kind=1)∧(d.n≠0→d.kind=5)∧-1000≤d.n∧d.n≤1000∧((d.kind=5∨d.kind=6)→d.kids.length=1)∧(d.kind<5→d.kids=[])∧∀ k (_:k∈d.kids),j7 k
termination_by SizeOf.sizeOf d
decreasing_by exact qp3 ‹_›
theorem qm5 {d k:Dc} (h:j7 d) (hk:k∈d.kids):j7 k:=by
 rw [j7] at h
 exact h.2.2.2.2.2.2.2.2 k hk
theorem ze5 {d:Dc} (h:j7 d) (hk:d.kind<5):d.kids=[]:=by
 rw [j7] at h
 exact h.2.2.2.2.2.2.2.1 hk
theorem qy0 {s:List UInt8} (h:(10:UInt8)∉s) (t:List UInt8):q01 (s++t)=s++q01 t:=by
 induction s with
 | nil=>rfl
 | cons c s IH =>
  simp only [List.mem_cons,not_or] at h
  have IH:=IH h.2
  unfold q01 at IH ⊢
  obtain ⟨l,ls,e⟩:=qz8 (s++t)
  rw [e] at IH
  rw [List.cons_append,qa7 (fun q=>h.1 q.symm) e]
  simp only [List.getD_cons_zero] at IH ⊢
  rw [IH];rfl
def x8 (d:Dc):List UInt8:=(if d.kind=1 then d.text else if d.kind=2 then [32] else [])++(if 5≤d.kind then (d.kids.attach.map fun k=>x8 k.1).flatten else [])
termination_by SizeOf.sizeOf d
decreasing_by exact qp3 k.2
theorem qq7 (d:Dc):x8 d=(if d.kind=1 then d.text else if d.kind=2 then [32] else [])++(if 5≤d.kind then (d.kids.map fun k=>x8 k).flatten else []):=by
 rw [x8]
 congr 2
 conv=>rhs;rw [← List.attach_map_subtype_val d.kids,List.map_map]
 rfl
theorem zn1 {t:Th} (h:j7 t.d) (h5:¬ 5≤t.d.kind) (fl:Bool):z6 t fl=[]:=by
 unfold z6
 rw [ze5 h (by omega)];rfl
end Go.AM
namespace Go.AM
open Go.RowKit
noncomputable def esD (d:Dc):List V:=d.kids.attach.map fun k=>.agg [.int .i64 k.1.kind,.str k.1.text,.int .i64 k.1.n,.osl 4 (esD k.1)]
termination_by SizeOf.sizeOf d
decreasing_by exact qp3 k.2
noncomputable def encD (d:Dc):V:=.agg [.int .i64 d.kind,.str d.text,.int .i64 d.n,.osl 4 (esD d)]
theorem qg8 (d:Dc):esD d=d.kids.map encD:=by
 rw [esD]
 conv=>rhs;rw [← List.attach_map_subtype_val d.kids,List.map_map]
 rfl
theorem qp2 (d:Dc):(esD d).length=d.kids.length:=by rw [qg8,List.length_map]
noncomputable def encT (t:Th):V:=.agg [.int .i64 t.d.kind,.str t.d.text,.int .i64 t.d.n,.osl 4 (esD t.d),.bool t.flat,.int .i64 t.n]
def dc0:Dc:=⟨0,[],0,[]⟩
def th0:Th:=⟨dc0,false,0⟩
theorem qq3 (seen:List Nat) (t:Th) (h:Heap):pub seen q04 h (encT t)=some (encT t,h):=rfl
variable {P:Program}
theorem zb8 {sz k:Nat} {es:List V} {vs:List V} (h1:1<sz) (he:es[k]?=some (.agg vs)) (hl:vs.length=sz):q62 sz es (k*sz) sz=some vs:=by
 unfold q62
 have e1:Nat.beq sz 1=false:=by rw [Bool.eq_false_iff];intro q;rw [Nat.beq_eq] at q;omega
 have e2:Nat.div (k*sz) sz=k:=Nat.mul_div_cancel _ (by omega)
 have e3:Nat.mod (k*sz) sz=0:=Nat.mul_mod_left _ _
 rw [e1,e2,e3]
 simp only [cond_false]
 rw [List.at_eq es k,he]
 simp only
 have e4:Nat.ble (Nat.add 0 sz) (List.len (V.agg vs).cells)=true:=by
  rw [Nat.ble_eq,List.len_eq]
  change 0+sz≤vs.length
  omega
 rw [e4,List.takeN_eq,List.dropN_eq]
 change some (vs.take sz)=_
 rw [List.take_of_length_le (by omega)]
theorem zf8 {t:TypeId} {vs:List V} (ha:q30 P t=some true) (hl:vs.length=size P t):pack P t vs=some (.agg vs):=by
 unfold pack
 rw [ha]
 simp only
 have e:Nat.beq (List.len vs) (size P t)=true:=by rw [Nat.beq_eq,List.len_eq];exact hl
 rw [e];rfl
theorem zd8 {h:Heap} {t sz k:Nat} {es:List V} {vs:List V} (ha:q30 P t=some true) (hs:size P t=sz) (h1:1<sz) (he:es[k]?=some (.agg vs)) (hl:vs.length=sz):load P h t (.gptr sz es (k*sz))=some (.agg vs):=by
 change qi8 P t (q62 sz es (k*sz) (size P t))=_
 rw [hs,zb8 h1 he hl]
 exact zf8 ha (hl.trans hs.symm)
theorem x65 {h:Heap} {t ty sz r ver k pub:Nat} {cap:Option Nat} {es:List V} {vs:List V} (ha:q30 P t=some true) (hs:size P t=sz) (h1:1<sz) (hr:h.get r=.row ver ty sz pub cap es) (he:es[k]?=some (.agg vs)) (hl:vs.length=sz):load P h t (.ptr r ver (k*sz))=some (.agg vs):=by
 unfold load
 simp only
 rw [hr]
 simp only [Nat.beq_refl,cond_true]
 rw [hs,zb8 h1 he hl]
 exact zf8 ha (hl.trans hs.symm)
theorem xh2 {sz k j:Nat} {es:List V} {vs:List V} {x:V} (h1:1<sz) (he:es[k]?=some (.agg vs)) (hl:vs.length=sz) (hx:vs[j]?=some x):q62 sz es (k*sz+j) 1=some [x]:=by
 unfold q62
 have hj:j<sz:=by have:=q9 hx;omega
 have e1:Nat.beq sz 1=false:=by rw [Bool.eq_false_iff];intro q;rw [Nat.beq_eq] at q;omega
 have e2:Nat.div (k*sz+j) sz=k:=by
  change (k*sz+j)/sz=k
  rw [Nat.add_comm,Nat.add_mul_div_right _ _ (by omega),Nat.div_eq_of_lt hj,Nat.zero_add]
 have e3:Nat.mod (k*sz+j) sz=j:=by
  change (k*sz+j)%sz=j
  rw [Nat.add_comm,Nat.add_mul_mod_self_right,Nat.mod_eq_of_lt hj]
 rw [e1,e2,e3]
 simp only [cond_false]
 rw [List.at_eq es k,he]
 simp only
 have e4:Nat.ble (Nat.add j 1) (List.len (V.agg vs).cells)=true:=by
  rw [Nat.ble_eq,List.len_eq]
  change j+1≤vs.length
  omega
 rw [e4,List.takeN_eq,List.dropN_eq]
 change some ((vs.drop j).take 1)=_
 obtain ⟨a,b⟩:=List.getElem?_eq_some_iff.1 hx
 rw [List.drop_eq_getElem_cons a,b];rfl
theorem xv2 {t:TypeId} {x:V} (ha:q30 P t=some false) (hc:x.cells=[x]):pack P t [x]=some x:=by
 unfold pack
 rw [ha]
theorem j28 {h:Heap} {t sz k j i:Nat} {es:List V} {vs:List V} {x:V} (ha:q30 P t=some false) (hs:size P t=1) (h1:1<sz) (hi:i=k*sz+j) (he:es[k]?=some (.agg vs)) (hl:vs.length=sz) (hx:vs[j]?=some x) (hc:x.cells=[x]):load P h t (.gptr sz es i)=some x:=by
 subst hi
 change qi8 P t (q62 sz es (k*sz+j) (size P t))=_
 rw [hs,xh2 h1 he hl hx]
 change pack P t [x]=_
 exact xv2 ha hc
theorem z60 {α β:Type} (f:α→β) (l:List α) (d:α) {k:Nat} (hk:k<l.length):(l.map f)[k]?=some (f (l.getD k d)):=by
 rw [List.getElem?_map,List.getElem?_eq_getElem hk,List.getD_eq_getElem?_getD,List.getElem?_eq_getElem hk];rfl
def szD (d:Dc):Nat:=1+d.text.length+d.n.natAbs+(d.kids.attach.map fun k=>szD k.1).sum
termination_by SizeOf.sizeOf d
decreasing_by exact qp3 k.2
theorem qa8 (d:Dc):szD d=1+d.text.length+d.n.natAbs+(d.kids.map szD).sum:=by
 rw [szD]
 congr 2
 conv=>rhs;rw [← List.attach_map_subtype_val d.kids,List.map_map]
 rfl
theorem xm7 {l:List Nat} (k:Nat):l.getD k 0≤l.sum:=by
 induction l generalizing k with
 | nil=>simp
 | cons x l IH =>
  cases k with
  | zero=>simp
  | succ k=>simp only [List.getD_cons_succ,List.sum_cons];have:=IH k;omega
theorem zx5 {α β:Type} (f:α→β) (l:List α) (d:α) (e:β) {k:Nat} (hk:k<l.length):(l.map f).getD k e=f (l.getD k d):=by
 rw [List.getD_eq_getElem?_getD,z60 f l d hk];rfl
theorem qg0 (d:Dc) {k:Nat} (hk:k<d.kids.length):szD (d.kids.getD k dc0)<szD d:=by
 have h:=xm7 (l:=d.kids.map szD) k
 rw [zx5 szD d.kids dc0 0 hk] at h
 rw [qa8 d];omega
theorem q07 (d:Dc):1≤szD d:=by rw [qa8];omega
theorem x64 (l:List Dc):l.length≤(l.map szD).sum:=by
 induction l with
 | nil=>simp
 | cons x l IH=>have:=q07 x;simp only [List.map_cons,List.sum_cons,List.length_cons];omega
theorem qc3 (d:Dc):d.kids.length<szD d:=by have:=x64 d.kids;rw [qa8];omega
theorem y3 (d:Dc):d.text.length<szD d:=by rw [qa8];omega
theorem j75 (d:Dc):d.n.natAbs<szD d:=by rw [qa8];omega
theorem zd1 (l:List Dc) {k:Nat} (hk:k<l.length):l.getD k dc0∈l:=by
 rw [List.getD_eq_getElem?_getD,List.getElem?_eq_getElem hk];exact List.getElem_mem hk
theorem zm9 {d:Dc} (h:j7 d) {k:Nat} (hk:k<d.kids.length):j7 (d.kids.getD k dc0):=qm5 h (zd1 _ hk)
theorem qn1 {d:Dc} (h:j7 d):0≤d.kind∧d.kind≤7:=by rw [j7] at h;exact ⟨h.1,h.2.1⟩
theorem z23 (d:Dc):k8 d=(decide (d.kind=4)||(decide (5≤d.kind)&&d.kids.any k8)):=by
 rw [k8]
 congr 2
 rw [Bool.eq_iff_iff,List.any_eq_true,List.any_eq_true]
 constructor
 ·rintro ⟨x,_,h⟩;exact ⟨x.1,x.2,h⟩
 ·rintro ⟨x,hx,h⟩;exact ⟨⟨x,hx⟩,List.mem_attach _ _,h⟩
theorem xs6 {α:Type} (f:α→Bool) (l:List α) (d:α) (i:Nat) (hi:i<l.length):(l.take (i+1)).any f=((l.take i).any f||f (l.getD i d)):=by
 rw [List.take_add_one,List.any_append,List.getD_eq_getElem?_getD,List.getElem?_eq_getElem hi]
 simp
theorem x36 (f:Dc→List UInt8) (hf:∀ d,(f d).length≤szD d) (l:List Dc):((l.map f).flatten).length≤(l.map szD).sum:=by
 induction l with
 | nil=>simp
 | cons x l IH=>have:=hf x;simp only [List.map_cons,List.flatten_cons,List.length_append,List.sum_cons];omega
theorem qf4 (d:Dc):(x8 d).length≤szD d:=by
 have key:∀ (n:Nat) (d:Dc),szD d≤n→(x8 d).length≤szD d:=by
  intro n
  induction n with
  | zero=>intro d h;have:=q07 d;omega
  | succ n IH =>
   intro d h
   have hs:=qa8 d
   rw [qq7,List.length_append]
   have h1:(if d.kind=1 then d.text else if d.kind=2 then [32] else []).length≤1+d.text.length:=by
    split
    ·omega
    ·split <;> simp
   have h2:(if 5≤d.kind then (d.kids.map fun k=>x8 k).flatten else []).length≤(d.kids.map szD).sum:=by
    split
    ·have:∀ l:List Dc,(∀ k,k∈l→szD k≤n)→((l.map fun k=>x8 k).flatten).length≤(l.map szD).sum:=by
      intro l
      induction l with
      | nil=>intro _;simp
      | cons x l IH2 =>
       intro hk
       have a:=IH x (hk x (by simp))
       have b:=IH2 fun k hk'=>hk k (by simp [hk'])
       simp only [List.map_cons,List.flatten_cons,List.length_append,List.sum_cons];omega
     refine this _ fun k hk=>?_
     obtain ⟨i,hi,e⟩:=List.getElem_of_mem hk
     have:=qg0 d hi
     rw [List.getD_eq_getElem?_getD,List.getElem?_eq_getElem hi,Option.getD_some,e] at this
     omega
    ·simp
   omega
 exact key _ d (Nat.le_refl _)
def catK (f:Dc→List UInt8) (l:List Dc) (i:Nat):List UInt8:=((l.take i).map f).flatten
theorem xj0 (f:Dc→List UInt8) (l:List Dc) {i:Nat} (hi:i<l.length):catK f l (i+1)=catK f l i++f (l.getD i dc0):=by
 unfold catK
 rw [List.take_add_one,List.map_append,List.flatten_append,List.getD_eq_getElem?_getD,List.getElem?_eq_getElem hi]
 simp
theorem xq6 (f:Dc→List UInt8) (l:List Dc):catK f l l.length=(l.map f).flatten:=by
 unfold catK
 rw [List.take_length]
theorem xt2 {f:Dc→List UInt8} (hf:∀ d,(f d).length≤szD d) (d:Dc) (i:Nat):(catK f d.kids i).length+d.text.length<szD d+1:=by
 have h1:=x36 f hf (d.kids.take i)
 have h2:((d.kids.take i).map szD).sum≤(d.kids.map szD).sum:=by
  have e:d.kids=d.kids.take i++d.kids.drop i:=(List.take_append_drop i _).symm
  conv=>rhs;rw [e]
  rw [List.map_append,List.sum_append];omega
 have:=qa8 d
 unfold catK
 omega
def zz5 (d:Dc):Prop:=0≤d.kind∧d.kind≤7∧(d.text≠[]↔d.kind=1)∧(d.n≠0→d.kind=5)∧-1000≤d.n∧d.n≤1000∧((d.kind=5∨d.kind=6)→d.kids.length=1)∧(d.kind<5→d.kids=[])
theorem zg7 (d:Dc):j7 d↔zz5 d∧∀ k,k<d.kids.length→j7 (d.kids.getD k dc0):=by
 rw [j7]
 unfold zz5
 constructor
 ·rintro ⟨a1,a2,a3,a4,a5,a6,a7,a8,a9⟩
  exact ⟨⟨a1,a2,a3,a4,a5,a6,a7,a8⟩,fun k hk=>a9 _ (zd1 _ hk)⟩
 ·rintro ⟨⟨a1,a2,a3,a4,a5,a6,a7,a8⟩,h⟩
  refine ⟨a1,a2,a3,a4,a5,a6,a7,a8,fun k hk=>?_⟩
  obtain ⟨i,hi,e⟩:=List.getElem_of_mem hk
  have:=h i hi
  rw [List.getD_eq_getElem?_getD,List.getElem?_eq_getElem hi,Option.getD_some,e] at this
  exact this
theorem neqB {p q:Prop} [Decidable p] [Decidable q]:((Bool.rec (!decide q) (decide q) (!decide p):Bool)=true)↔(¬ p↔q):=by
 by_cases hp:p <;> by_cases hq:q <;> simp [hp,hq]
theorem zg9 {k n:Int} {t:List UInt8} {es:List V} {c:Option Nat} {l:List Dc} (he:es=l.map encD):Gk (.agg [.int .i64 k,.str t,.int .i64 n,.gsl 4 es c]) (encD ⟨k,t,n,l⟩):=by
 unfold encD
 rw [qg8]
 subst he
 refine .agg rfl fun i x y p q=>?_
 rcases i with _ | _ | _ | _ | i <;> simp at p q
 ·subst p;subst q;exact .refl _
 ·subst p;subst q;exact .refl _
 ·subst p;subst q;exact .refl _
 ·subst p;subst q;exact .gsl
theorem zl8 {k n:Int} {t:List UInt8}:Gk (.agg [.int .i64 k,.str t,.int .i64 n,.nils]) (encD ⟨k,t,n,[]⟩):=by
 unfold encD
 rw [qg8]
 refine .agg rfl fun i x y p q=>?_
 rcases i with _ | _ | _ | _ | i <;> simp at p q
 ·subst p;subst q;exact .refl _
 ·subst p;subst q;exact .refl _
 ·subst p;subst q;exact .refl _
 ·subst p;subst q;exact .nils 4
theorem x55 {k n:Int} {t:List UInt8}:Wk (.agg [.int .i64 k,.str t,.int .i64 n,.nils]) (encD ⟨k,t,n,[]⟩):=by
 unfold encD
 rw [qg8]
 exact .aggs (.cons (.refl _) (.cons (.refl _) (.cons (.refl _) (.cons (.nils 4) .nil))))
theorem qi7 {k n:Int} {t:List UInt8}:Wke (.agg [.int .i64 k,.str t,.int .i64 n,.nils]) (encD ⟨k,t,n,[]⟩):=by
 refine ⟨rfl,rfl,fun j x y p q=>?_⟩
 unfold encD at q
 rw [qg8] at q
 change [V.int .i64 k,.str t,.int .i64 n,.nils][j]?=some x at p
 change [V.int .i64 k,.str t,.int .i64 n,.osl 4 []][j]?=some y at q
 rcases j with _ | _ | _ | _ | j <;> simp at p q
 ·subst p;subst q;exact .refl _
 ·subst p;subst q;exact .refl _
 ·subst p;subst q;exact .refl _
 ·subst p;subst q;exact .nils 4
theorem xz5 {keep:List Dc} {d:Dc} {x:V} (hx:Wke x (encD d)):∀ (i:Nat) e e',(keep.map encD++[x])[i]?=some e→((keep++[d]).map encD)[i]?=some e'→Wke e e':=fun i e e' p q=>by
 rw [List.map_append] at q
 rcases Nat.lt_or_ge i (keep.map encD).length with h | h
 ·rw [List.getElem?_append_left h] at p q
  rw [p] at q;cases q
  obtain ⟨a,_,rfl⟩:=List.mem_map.1 (List.mem_of_getElem? p)
  exact .refl rfl
 ·rw [List.getElem?_append_right h] at p q
  cases hi:i-(keep.map encD).length with
  | zero=>rw [hi] at p q;cases p;cases q;exact hx
  | succ n=>rw [hi] at p;simp at p
theorem x70 (k:Int) (t:List UInt8) (n:Int) (l:List Dc):encD ⟨k,t,n,l⟩=.agg [.int .i64 k,.str t,.int .i64 n,.osl 4 (l.map encD)]:=by
 change V.agg [.int .i64 k,.str t,.int .i64 n,.osl 4 (esD ⟨k,t,n,l⟩)]=_
 rw [qg8]
theorem xu0 {l:List Dc} {n:Nat}:∀ (i:Nat) e e',(l.map encD)[i]?=some e→((l.take n).map encD)[i]?=some e'→Wke e e':=fun i e e' p q=>by
 rw [List.map_take,List.getElem?_take] at q
 split at q
 ·rw [p] at q;cases q
  obtain ⟨a,_,rfl⟩:=List.mem_map.1 (List.mem_of_getElem? p)
  exact .refl rfl
 ·cases q
theorem z38 {sz:Nat} {es:List V} (h:es≠[]):Wk (.osl sz es) (.gsl sz es none):=fun g v hR=>by
 cases hR with
 | gnd hg =>
  cases hg with
  | oslN=>exact absurd rfl h
  | oslS hg=>exact .gnd hg
theorem zw3 {a x y:V} (h:Wk x y):Wke (.agg [a,x]) (.agg [a,y]):=by
 refine ⟨rfl,rfl,fun j u w p q=>?_⟩
 change [a,x][j]?=some u at p
 change [a,y][j]?=some w at q
 rcases j with _ | _ | j <;> simp at p q
 ·subst p;subst q;exact .refl _
 ·subst p;subst q;exact h
theorem zm4 {e e':V} (h:Wke e e'):∀ (i:Nat) x y,[e][i]?=some x→[e'][i]?=some y→Wke x y:=fun i x y p q=>by
 cases i with
 | zero=>cases p;cases q;exact h
 | succ i=>simp at p
theorem zm2 {a b:List V} (hf:∀ e,e∈a→e.flat=true):∀ (i:Nat) e e',(a++b)[i]?=some e→a[i]?=some e'→Wke e e':=fun i e e' p q=>by
 rw [List.getElem?_append_left (q9 q)] at p
 rw [p] at q;cases q
 exact .refl (hf e (List.mem_of_getElem? p))
theorem z36 {l:List Th}:∀ e,e∈l.map encT→e.flat=true:=fun e he=>by
 obtain ⟨t,_,rfl⟩:=List.mem_map.1 he
 rfl
end Go.AM
namespace Go.AM
def q09:List (List UInt8):=[[97],[98,99,100],[195,169,226,130,172],[120,10,121],[32],[40],[97,32,108,111,110,103,32,119,111,114,100]]
def rowD (l:List Dc):Dc :=
 match l.filter fun d=>!decide (d.kind=0) with
 | []=>dc0
 | [x]=>x
 | l=>⟨7,[],0,l⟩
def q28 (l:List Dc) (a b:Nat):List Dc :=
 if a%10<3 then l++[⟨1,q09.getD (b%7) [],0,[]⟩]
 else if a%10<5 then l++[⟨2,[],0,[]⟩]
 else if a%10<6 then l++[⟨3+(b/200:Nat),[],0,[]⟩]
 else if a%10<7 then l.take (l.length-min (b%4) l.length)++[⟨5,[],((b%5:Nat):Int)-2+5*((b%2:Nat):Int),[⟨7,[],0,l.drop (l.length-min (b%4) l.length)⟩]⟩]
 else if a%10<9 then l.take (l.length-min (b%4) l.length)++[⟨6,[],0,[⟨7,[],0,l.drop (l.length-min (b%4) l.length)⟩]⟩]
 else l.take (l.length-min (b%4) l.length)++[rowD (l.drop (l.length-min (b%4) l.length))]
def q82 (c:List UInt8):Nat→List Dc
 | 0=>[]
 | n+1=>q28 (q82 c n) (c.getD (2*n) 0).toNat (c.getD (2*n+1) 0).toNat
def docN (c:List UInt8):Nat:=min (c.length/2) 40
def qs0 (c:List UInt8):Dc:=⟨7,[],0,q82 c (docN c)⟩
theorem qi2 (l:List Dc) (a b:Nat) (h:a%10<3):q28 l a b=l++[⟨1,q09.getD (b%7) [],0,[]⟩]:=by unfold q28;rw [if_pos h]
theorem qm3 (l:List Dc) (a b:Nat) (h1:¬ a%10<3) (h:a%10<5):q28 l a b=l++[⟨2,[],0,[]⟩]:=by unfold q28;rw [if_neg h1,if_pos h]
theorem zf0 (l:List Dc) (a b:Nat) (h:a%10=5):q28 l a b=l++[⟨3+(b/200:Nat),[],0,[]⟩]:=by unfold q28;rw [if_neg (by omega),if_neg (by omega),if_pos (by omega)]
theorem x69 (l:List Dc) (a b:Nat) (h:a%10=6):q28 l a b=l.take (l.length-min (b%4) l.length)++[⟨5,[],((b%5:Nat):Int)-2+5*((b%2:Nat):Int),[⟨7,[],0,l.drop (l.length-min (b%4) l.length)⟩]⟩]:=by unfold q28;rw [if_neg (by omega),if_neg (by omega),if_neg (by omega),if_pos (by omega)]
theorem z07 (l:List Dc) (a b:Nat) (h1:7≤a%10) (h:a%10<9):q28 l a b=l.take (l.length-min (b%4) l.length)++[⟨6,[],0,[⟨7,[],0,l.drop (l.length-min (b%4) l.length)⟩]⟩]:=by unfold q28;rw [if_neg (by omega),if_neg (by omega),if_neg (by omega),if_neg (by omega),if_pos h]
theorem x00 (l:List Dc) (a b:Nat) (h:9≤a%10):q28 l a b=l.take (l.length-min (b%4) l.length)++[rowD (l.drop (l.length-min (b%4) l.length))]:=by unfold q28;rw [if_neg (by omega),if_neg (by omega),if_neg (by omega),if_neg (by omega),if_neg (by omega)]
theorem xd6 (l:List UInt8) {i:Nat} (h2:i%2=0):q82 l (i/2+1)=q28 (q82 l (i/2)) (l.getD i 0).toNat (l.getD (i+1) 0).toNat:=by
 rw [q82,show 2*(i/2)=i by omega]
def sumD (l:List Dc):Nat:=(l.map szD).sum
theorem qe5 (a b:List Dc):sumD (a++b)=sumD a+sumD b:=by unfold sumD;rw [List.map_append,List.sum_append]
theorem q99 (d:Dc):sumD [d]=szD d:=by simp [sumD]
theorem xr7 (l:List Dc) (k:Nat):sumD (l.take k)+sumD (l.drop k)=sumD l:=by rw [← qe5,List.take_append_drop]
theorem q80 (k:Int) (t:List UInt8) (n:Int) (l:List Dc):szD ⟨k,t,n,l⟩=1+t.length+n.natAbs+sumD l:=by rw [qa8];rfl
theorem x29 (p:Dc→Bool) (l:List Dc):sumD (l.filter p)≤sumD l:=by
 induction l with
 | nil=>exact Nat.le_refl _
 | cons x l IH =>
  rw [List.filter_cons]
  have e:sumD (x::l)=szD x+sumD l:=by simp [sumD]
  split
  ·have e2:sumD (x::l.filter p)=szD x+sumD (l.filter p):=by simp [sumD]
   omega
  ·omega
theorem j25 (l:List Dc):szD (rowD l)≤1+sumD l:=by
 have h:=x29 (fun d=>!decide (d.kind=0)) l
 unfold rowD
 split
 ·have:szD dc0=1:=by unfold dc0;rw [q80];rfl
  omega
 ·rename_i x e
  rw [e,q99] at h;omega
 ·rename_i l' e1 e2
  rw [q80];simp;omega
theorem xc5 (k:Nat):(q09.getD k []).length≤11:=by
 rcases Nat.lt_or_ge k 7 with h | h
 ·have:∀ k:Fin 7,(q09.getD k.1 []).length≤11:=by decide
  exact this ⟨k,h⟩
 ·rw [List.getD_eq_getElem?_getD,List.getElem?_eq_none (by exact h)];simp
theorem xs2 (l:List Dc) (a b:Nat) (hb:b<256):sumD (q28 l a b)≤sumD l+12:=by
 have hc:=xr7 l (l.length-min (b%4) l.length)
 have hr:=j25 (l.drop (l.length-min (b%4) l.length))
 have ht:=xc5 (b%7)
 unfold q28
 split
 ·rw [qe5,q99,q80];simp [sumD] at *;omega
 ·split
  ·rw [qe5,q99,q80];simp [sumD]
  ·split
   ·rw [qe5,q99,q80];simp [sumD]
   ·split
    ·rw [qe5,q99,q80,q99,q80];simp only [List.length_nil];omega
    ·split
     ·rw [qe5,q99,q80,q99,q80];simp only [List.length_nil];omega
     ·rw [qe5,q99];omega
theorem zu4 (c:List UInt8) (n:Nat):sumD (q82 c n)≤12*n:=by
 induction n with
 | zero=>exact Nat.le_refl _
 | succ n IH =>
  have:=xs2 (q82 c n) (c.getD (2*n) 0).toNat (c.getD (2*n+1) 0).toNat (c.getD (2*n+1) 0).toNat_lt
  change sumD (q28 _ _ _)≤_
  omega
theorem xt3 (c:List UInt8):szD (qs0 c)≤481:=by
 unfold qs0
 rw [q80]
 have:=zu4 c (docN c)
 have:docN c≤40:=Nat.min_le_right _ _
 simp only [List.length_nil];omega
theorem xh5 (c:List UInt8) (n:Nat):(q82 c n).length≤12*n:=Nat.le_trans (x64 _) (zu4 c n)
end Go.AM
namespace Go.AM
def sumT (l:List Th):Nat:=(l.map fun t=>szD t.d).sum
theorem q93:sumT []=0:=rfl
theorem j5 (t:Th) (l:List Th):sumT (t::l)=szD t.d+sumT l:=by simp [sumT]
theorem q57 (a b:List Th):sumT (a++b)=sumT a+sumT b:=by simp [sumT]
theorem q91 (t:Th) (fl:Bool):sumT (z6 t fl)<szD t.d:=by
 rw [qa8]
 unfold sumT z6
 rw [List.map_map]
 have:((fun t:Th=>szD t.d) ∘ fun k=>(⟨k,fl,t.n+t.d.n⟩:Th))=szD:=rfl
 rw [this];omega
theorem qe6 (l:List Th):l.length≤sumT l:=by
 induction l with
 | nil=>exact Nat.le_refl _
 | cons t l IH=>have:=q07 t.d;rw [j5,List.length_cons];omega
def okT (t:Th):Prop:=j7 t.d∧t.n.natAbs+szD t.d≤100000
theorem z16 {t:Th} (h:okT t) (fl:Bool):∀ k,k∈z6 t fl→okT k:=fun k hk=>by
 unfold z6 at hk
 obtain ⟨d,hd,rfl⟩:=List.mem_map.1 hk
 refine ⟨qm5 h.1 hd,?_⟩
 obtain ⟨i,hi,e⟩:=List.getElem_of_mem hd
 have h1:=xm7 (l:=t.d.kids.map szD) i
 rw [zx5 szD t.d.kids dc0 0 hi,List.getD_eq_getElem?_getD,List.getElem?_eq_getElem hi,Option.getD_some,e] at h1
 have h2:=qa8 t.d
 have h3:=h.2
 simp only
 omega
theorem ql5 {t:Th} (h:okT t):-1000000000≤t.n+t.d.n∧t.n+t.d.n≤1000000000:=by
 have h1:=j75 t.d
 have h3:=h.2
 omega
theorem qb3 (t:Th) (fl:Bool):(z6 t fl).length=t.d.kids.length:=by unfold z6;rw [List.length_map]
theorem zn5 {w col:Int} (l:List Th) (h:¬ col≤w):y1 w l col=false:=by
 unfold y1
 exact if_neg h
theorem zv1 {w col:Int} (h:col≤w):y1 w [] col=true:=by
 unfold y1
 exact if_pos h
theorem q08 {w col:Int} {t:Th} {r:List Th} (h:col≤w):y1 w (t::r) col=if t.d.kind=1 then (if q65 t.d.text then decide (col+(wide (q01 t.d.text):Int)≤w) else y1 w r (col+(wide t.d.text:Int)))
   else if t.d.kind=4 then true
   else if t.d.kind=2∨t.d.kind=3 then (if t.flat then y1 w r (if t.d.kind=2 then col+1 else col) else true)
   else y1 w (z6 t t.flat++r) col:=by
 conv=>lhs;unfold y1
 rw [if_pos h]
theorem q46 (s:List UInt8):q65 s=true↔(10:UInt8)∈s:=by unfold q65;exact decide_eq_true_iff
theorem z05 {s:List UInt8} (h:(10:UInt8)∈s):∃ a b,s=a++10::b∧(10:UInt8)∉a∧q01 s=a:=by
 obtain ⟨a,b,h1,h2,_⟩:=q77 s h
 refine ⟨a,b,h1,h2,?_⟩
 rw [h1,qy0 h2]
 have e:q01 (10::b)=[]:=by
  unfold q01
  rw [z7]
  simp
 rw [e,List.append_nil]
end Go.AM
namespace Go.AM
open Go.Proofs
set_option maxRecDepth 100000
def xy8:T Bool:=(.n (.n (.n (.n (.n (.n .e true (.n .e true .e)) false .e) false (.n (.n (.n .e true .e) false .e) false (.n .e true .e))) false (.n (.n (.n .e false (.n .e true .e)) false .e) false .e)) false (.n (.n (.n .e false (.n .e true .e)) false (.n .e false (.n .e true .e))) false (.n (.n (.n (.n .e true .e) true .e) false .e) false (.n .e false (.n (.n .e true .e) true .e))))) false (.n (.n (.n (.n (.n .e true (.n .e true .e)) false .e) false (.n .e false (.n .e true .e))) false (.n (.n (.n (.n .e true .e) false .e) false .e) false (.n (.n (.n .e true .e) false .e) false (.n (.n .e true .e) false .e)))) false (.n (.n (.n .e false (.n .e true .e)) false (.n (.n (.n .e true .e) false .e) false (.n .e true .e))) false (.n (.n .e false (.n .e true .e)) false (.n .e true (.n (.n .e true .e) true .e))))))
def j18:T Bool:=.e
def j92 (_:Nat):Option V:=none
noncomputable def E0:Env:={ shared:=T.get false xy8,pubRet:=T.get false j18,prim:=fun _ _=>none,glob:=j92 }
def zw5:List (FuncId×V):=[(8,.bool true)]
noncomputable def EU:Env:={ E0 with prim:=x98 [] zw5,lit:=fun _=>true,borrow:=fun f=>Nat.beq f 36,data:=fun f=>Nat.beq f 34||Nat.beq f 9||Nat.beq f 24||Nat.beq f 45||Nat.beq f 46||Nat.beq f 22||Nat.beq f 23 }
theorem names:qk4 Tryd.prog:=zn9 (by kernel_rfl)
theorem snd0:Snd Tryd.prog E0 (run Tryd.prog E0 1000000):=zk6 names (zc1 rfl) _
theorem known0_ok:ck0 Tryd.prog E0 1000000 zw5=true:=by kernel_rfl
theorem j88:q86 Tryd.prog EU:=xr2 (TT:=[]) (T0:=zw5) rfl (fun p hp=>by cases hp) (xq1 snd0 known0_ok)
theorem j90 {W:World}:x9 EU.glob (z00 W):=fun g x h=>by cases h
end Go.AM
