/-
  PLAIN LAWS, with no program in sight; what stands around the machine in this seat. No condition but what each theorem says.
-/
import Derived.Test.YtejbaikaiifpaaaDoorProg
import Derived.Test.YtejbaikaiifpaaaDoorFewP5
namespace Go.AM
def linesOf:List UInt8 → List (List UInt8)
 | [] => [[]]
 | c :: s => if c = 10 then [] :: linesOf s else match linesOf s with
  | l :: ls => (c :: l) :: ls
  | [] => [[c]]
theorem linesOf_ne (s:List UInt8):linesOf s ≠ []:=by
 cases s with
 | nil => simp [linesOf]
 | cons c s => unfold linesOf; split <;> (try split) <;> simp
theorem linesOf_feed (s:List UInt8):linesOf (10 :: s) = [] :: linesOf s:=by simp [linesOf]
theorem linesOf_cons {c:UInt8} {s l:List UInt8} {ls:List (List UInt8)} (h:c ≠ 10) (e:linesOf s = l :: ls):linesOf (c :: s) = (c :: l) :: ls:=by
 rw [linesOf,if_neg h,e]
theorem linesOf_ex (s:List UInt8):∃ l ls,linesOf s = l :: ls:=by
 cases h:linesOf s with
 | nil => exact absurd h (linesOf_ne s)
 | cons l ls => exact ⟨l,ls,rfl⟩
theorem linesOf_app (a s:List UInt8) (h:(10:UInt8) ∉ a):linesOf (a ++ 10 :: s) = a :: linesOf s:=by
 induction a with
 | nil => exact linesOf_feed s
 | cons c a IH =>
  simp only [List.mem_cons,not_or] at h
  rw [List.cons_append,linesOf_cons (fun e => h.1 e.symm) (IH h.2)]
def lastFrom:Nat → List UInt8 → Nat
 | k,[] => k
 | k,b :: l => if b = 10 then lastFrom 0 l else lastFrom (k + 1) l
def lastLen (l:List UInt8):Nat:=lastFrom 0 l
theorem lastFrom_snoc (l:List UInt8) (b:UInt8):∀ k,lastFrom k (l ++ [b]) = if b = 10 then 0 else lastFrom k l + 1:=by
 induction l with
 | nil => intro k; simp [lastFrom]
 | cons a l IH => intro k; simp only [List.cons_append,lastFrom]; split <;> exact IH _
theorem lastLen_snoc (l:List UInt8) (b:UInt8):lastLen (l ++ [b]) = if b = 10 then 0 else lastLen l + 1:=lastFrom_snoc l b 0
def lastB (c:UInt8):List UInt8 → Int
 | [] => -1
 | b :: l => if 0 ≤ lastB c l then lastB c l + 1 else if b = c then 0 else -1
theorem lastB_ge (c:UInt8) (l:List UInt8):-1 ≤ lastB c l ∧ lastB c l < l.length:=by
 induction l with
 | nil => simp [lastB]
 | cons b l IH =>
  simp only [lastB,List.length_cons]
  split
  ·omega
  ·split <;> omega
theorem lastB_snoc (c b:UInt8) (l:List UInt8):lastB c (l ++ [b]) = if b = c then (l.length:Int) else lastB c l:=by
 induction l with
 | nil => simp [lastB]
 | cons a l IH =>
  simp only [List.cons_append,lastB,IH]
  by_cases hb:b = c
  ·simp only [if_pos hb]
   rw [if_pos (by omega)]; simp
  ·simp only [if_neg hb]
theorem lastB_len (s:List UInt8) (n:Nat):n ≤ s.length → (n:Int) - 1 - lastB 10 (s.take n) = lastLen (s.take n):=by
 induction n with
 | zero => intro _; rfl
 | succ n IH =>
  intro h
  have h':n < s.length:=h
  rw [List.take_succ_eq_append_getElem h',lastB_snoc,lastLen_snoc]
  have:=IH (by omega)
  by_cases hb:s[n] = 10
  ·rw [if_pos hb,if_pos hb]; simp; omega
  ·rw [if_neg hb,if_neg hb]; omega
theorem find_none (s:List UInt8) (h:(10:UInt8) ∉ s):∀ i,findByte 10 s i = -1:=by
 induction s with
 | nil => intro i; rfl
 | cons b s IH =>
  intro i
  simp only [List.mem_cons,not_or] at h
  change (bif byteEq b 10 then Int.ofNat i else findByte 10 s (Nat.succ i)) = -1
  rw [byteEq_eq,beq_eq_false_iff_ne.2 (fun e => h.1 e.symm)]
  exact IH h.2 _
theorem find_some (s:List UInt8) (h:(10:UInt8) ∈ s):∃ a t,s = a ++ 10 :: t ∧ (10:UInt8) ∉ a ∧ ∀ i,findByte 10 s i = ((a.length + i:Nat):Int):=by
 induction s with
 | nil => cases h
 | cons b s IH =>
  by_cases hb:b = 10
  ·subst hb
   exact ⟨[],s,rfl,by simp,fun i => by
    change (bif byteEq 10 10 then Int.ofNat i else findByte 10 s (Nat.succ i)) = _
    rw [byteEq_eq]; simp⟩
  ·obtain ⟨a,t,e,hn,hf⟩:=IH (by
    rcases List.mem_cons.1 h with q | q
    ·exact absurd q.symm hb
    ·exact q)
   refine ⟨b :: a,t,by rw [e]; rfl,by simp only [List.mem_cons,not_or]; exact ⟨fun q => hb q.symm,hn⟩,fun i => ?_⟩
   change (bif byteEq b 10 then Int.ofNat i else findByte 10 s (Nat.succ i)) = _
   rw [byteEq_eq,beq_eq_false_iff_ne.2 hb,hf]
   simp only [cond_false,List.length_cons]; omega
theorem byteAt_ten {s:List UInt8} {k:Nat} (hk:k < s.length):byteAt s (k:Int) = 10 ↔ s[k] = 10:=by
 unfold byteAt
 rw [Int.toNat_natCast,List.getD_eq_getElem?_getD,List.getElem?_eq_getElem hk,Option.getD_some]
 constructor
 ·intro h; exact UInt8.toNat_inj.1 (show s[k].toNat = 10 by omega)
 ·intro h; rw [h]; rfl
theorem lastB_found {s:List UInt8} {k:Nat} (h0:0 < k) (hk:k ≤ s.length) (c:byteAt s ((k:Int) - 1) = 10):lastB 10 (s.take k) = (k:Int) - 1:=by
 obtain ⟨j,rfl⟩:∃ j,k = j + 1:=⟨k - 1,by omega⟩
 rw [show ((j + 1:Nat):Int) - 1 = (j:Int) by omega] at c ⊢
 rw [List.take_succ_eq_append_getElem (show j < s.length from hk),lastB_snoc,if_pos ((byteAt_ten hk).1 c),List.length_take,Nat.min_eq_left (by omega)]
theorem lastB_not {s:List UInt8} {k:Nat} (h0:0 < k) (hk:k ≤ s.length) (c:¬ byteAt s ((k:Int) - 1) = 10):lastB 10 (s.take k) = lastB 10 (s.take (k - 1)):=by
 obtain ⟨j,rfl⟩:∃ j,k = j + 1:=⟨k - 1,by omega⟩
 rw [show ((j + 1:Nat):Int) - 1 = (j:Int) by omega] at c
 rw [List.take_succ_eq_append_getElem (show j < s.length from hk),lastB_snoc,if_neg (fun e => c ((byteAt_ten hk).2 e))]
 rfl
def placeOk (s:List UInt8) (p:Int):Prop:=0 ≤ p ∧ p ≤ s.length
instance (s:List UInt8) (p:Int):Decidable (placeOk s p):=inferInstanceAs (Decidable (_ ∧ _))
def offOk (s:List UInt8) (l c:Int):Prop:=0 ≤ l ∧ 0 ≤ c ∧ l < (linesOf s).length ∧ c ≤ ((linesOf s).getD l.toNat []).length
instance (s:List UInt8) (l c:Int):Decidable (offOk s l c):=inferInstanceAs (Decidable (_ ∧ _ ∧ _ ∧ _))
end Go.AM
namespace Go.AM
def dec (s:List UInt8):Nat × Nat:=Utf8.decode ⟨⟨s⟩⟩ 0
def decG (b0 b1 b2 b3:Nat) (c1 c2 c3:Bool):Nat × Nat :=
 if b0 < 0x80 then (b0,1)
 else if b0 / 32 == 6 && (c1 && b1 / 64 == 2) then
  if b0 % 32 * 64 + b1 % 64 ≥ 0x80 then (b0 % 32 * 64 + b1 % 64,2) else (65533,1)
 else if b0 / 16 == 14 && (c1 && b1 / 64 == 2) && (c2 && b2 / 64 == 2) then
  if b0 % 16 * 4096 + b1 % 64 * 64 + b2 % 64 ≥ 0x800 && Utf8.valid (b0 % 16 * 4096 + b1 % 64 * 64 + b2 % 64:Nat) then (b0 % 16 * 4096 + b1 % 64 * 64 + b2 % 64,3) else (65533,1)
 else if b0 / 8 == 30 && (c1 && b1 / 64 == 2) && (c2 && b2 / 64 == 2) && (c3 && b3 / 64 == 2) then
  if b0 % 8 * 262144 + b1 % 64 * 4096 + b2 % 64 * 64 + b3 % 64 ≥ 0x10000 && Utf8.valid (b0 % 8 * 262144 + b1 % 64 * 4096 + b2 % 64 * 64 + b3 % 64:Nat) then (b0 % 8 * 262144 + b1 % 64 * 4096 + b2 % 64 * 64 + b3 % 64,4) else (65533,1)
 else (65533,1)
def atN (s:List UInt8) (k:Nat):Nat:=(s.getD k 0).toNat
theorem get!_list (s:List UInt8) (j:Nat):(ByteArray.mk ⟨s⟩).get! j = s.getD j 0:=by
 simp [ByteArray.get!,List.getD_eq_getElem?_getD]
 rfl
theorem size_list (s:List UInt8):(ByteArray.mk ⟨s⟩).size = s.length:=rfl
theorem decode_list (s:List UInt8) (i:Nat):Utf8.decode ⟨⟨s⟩⟩ i = decG (atN s i) (atN s (i + 1)) (atN s (i + 2)) (atN s (i + 3)) (decide (i + 1 < s.length)) (decide (i + 2 < s.length)) (decide (i + 3 < s.length)):=by
 unfold Utf8.decode decG atN
 simp only [get!_list,size_list,Nat.add_zero,Utf8.runeError]
theorem dec_list (s:List UInt8):dec s = decG (atN s 0) (atN s 1) (atN s 2) (atN s 3) (decide (1 < s.length)) (decide (2 < s.length)) (decide (3 < s.length)):=by
 have:=decode_list s 0
 simp only [Nat.zero_add] at this
 exact this
theorem atN_drop (s:List UInt8) (i k:Nat):atN (s.drop i) k = atN s (i + k):=by
 unfold atN
 rw [List.getD_eq_getElem?_getD,List.getD_eq_getElem?_getD,List.getElem?_drop]
theorem decode_drop (s:List UInt8) (i:Nat):Utf8.decode ⟨⟨s⟩⟩ i = dec (s.drop i):=by
 rw [decode_list,dec_list]
 simp only [atN_drop,List.length_drop,Nat.add_zero]
 congr 1 <;> rw [decide_eq_decide] <;> omega
theorem lenAt_dec (s:List UInt8) (i:Nat):lenAt s i = (dec (s.drop i)).2:=by unfold lenAt; rw [decode_drop]
def badP:Nat × Nat:=(65533,1)
theorem decG_good {b0 b1 b2 b3:Nat} {c1 c2 c3:Bool} (h:decG b0 b1 b2 b3 c1 c2 c3 ≠ badP) :
  (b0 < 0x80 ∧ decG b0 b1 b2 b3 c1 c2 c3 = (b0,1) ∧ ∀ b1' b2' b3' c1' c2' c3',decG b0 b1' b2' b3' c1' c2' c3' = (b0,1)) ∨
  (c1 = true ∧ (decG b0 b1 b2 b3 c1 c2 c3).2 = 2 ∧ ∀ b2' b3' c2' c3',decG b0 b1 b2' b3' true c2' c3' = decG b0 b1 b2 b3 c1 c2 c3) ∨
  (c1 = true ∧ c2 = true ∧ (decG b0 b1 b2 b3 c1 c2 c3).2 = 3 ∧ ∀ b3' c3',decG b0 b1 b2 b3' true true c3' = decG b0 b1 b2 b3 c1 c2 c3) ∨
  (c1 = true ∧ c2 = true ∧ c3 = true ∧ (decG b0 b1 b2 b3 c1 c2 c3).2 = 4):=by
 by_cases h0:b0 < 0x80
 ·exact .inl ⟨h0,by unfold decG; rw [if_pos h0],fun _ _ _ _ _ _ => by unfold decG; rw [if_pos h0]⟩
 refine .inr ?_
 by_cases h1:(b0 / 32 == 6 && (c1 && b1 / 64 == 2)) = true
 ·refine .inl ?_
  have hc:c1 = true:=by simp only [Bool.and_eq_true] at h1; exact h1.2.1
  subst hc
  have e:∀ b2' b3' c2' c3',decG b0 b1 b2' b3' true c2' c3' = if b0 % 32 * 64 + b1 % 64 ≥ 0x80 then (b0 % 32 * 64 + b1 % 64,2) else (65533,1):=fun _ _ _ _ => by
   unfold decG; rw [if_neg h0,if_pos h1]
  rw [e] at h ⊢
  refine ⟨rfl,?_,fun _ _ _ _ => e _ _ _ _⟩
  split
  ·rfl
  ·rename_i hh; rw [if_neg hh] at h; exact absurd rfl h
 refine .inr ?_
 by_cases h2:(b0 / 16 == 14 && (c1 && b1 / 64 == 2) && (c2 && b2 / 64 == 2)) = true
 ·refine .inl ?_
  have hc:c1 = true ∧ c2 = true:=by simp only [Bool.and_eq_true] at h2; exact ⟨h2.1.2.1,h2.2.1⟩
  obtain ⟨rfl,rfl⟩:=hc
  have e:∀ b3' c3',decG b0 b1 b2 b3' true true c3' = if b0 % 16 * 4096 + b1 % 64 * 64 + b2 % 64 ≥ 0x800 && Utf8.valid (b0 % 16 * 4096 + b1 % 64 * 64 + b2 % 64:Nat) then (b0 % 16 * 4096 + b1 % 64 * 64 + b2 % 64,3) else (65533,1):=fun _ _ => by
   unfold decG; rw [if_neg h0,if_neg h1,if_pos h2]
  rw [e] at h ⊢
  refine ⟨rfl,rfl,?_,fun _ _ => e _ _⟩
  split
  ·rfl
  ·rename_i hh; rw [if_neg hh] at h; exact absurd rfl h
 refine .inr ?_
 by_cases h3:(b0 / 8 == 30 && (c1 && b1 / 64 == 2) && (c2 && b2 / 64 == 2) && (c3 && b3 / 64 == 2)) = true
 ·have hc:c1 = true ∧ c2 = true ∧ c3 = true:=by simp only [Bool.and_eq_true] at h3; exact ⟨h3.1.1.2.1,h3.1.2.1,h3.2.1⟩
  obtain ⟨rfl,rfl,rfl⟩:=hc
  refine ⟨rfl,rfl,rfl,?_⟩
  unfold decG at h ⊢
  rw [if_neg h0,if_neg h1,if_neg h2,if_pos h3] at h ⊢
  split
  ·rfl
  ·rename_i hh; rw [if_neg hh] at h; exact absurd rfl h
 ·exfalso
  unfold decG at h
  rw [if_neg h0,if_neg h1,if_neg h2,if_neg h3] at h
  exact absurd rfl h
theorem dec_pos (s:List UInt8):1 ≤ (dec s).2:=by
 by_cases h:dec s = badP
 ·rw [h]; exact Nat.le_refl _
 ·rw [dec_list] at h ⊢
  rcases decG_good h with ⟨_,e,_⟩ | ⟨_,e,_⟩ | ⟨_,_,e,_⟩ | ⟨_,_,_,e⟩ <;> rw [e] <;> simp
theorem dec_le {s:List UInt8} (hs:s ≠ []):(dec s).2 ≤ s.length:=by
 have h0:0 < s.length:=List.length_pos_iff.2 hs
 by_cases h:dec s = badP
 ·rw [h]; exact h0
 ·rw [dec_list] at h ⊢
  rcases decG_good h with ⟨_,e,_⟩ | ⟨c,e,_⟩ | ⟨_,c,e,_⟩ | ⟨_,_,c,e⟩ <;> rw [e]
  ·exact h0
  ·exact of_decide_eq_true c
  ·exact of_decide_eq_true c
  ·exact of_decide_eq_true c
theorem atN_app {s t:List UInt8} {n k:Nat} (h:k < n) (hn:n ≤ s.length):atN (s.take n ++ t) k = atN s k:=by
 unfold atN
 rw [List.getD_eq_getElem?_getD,List.getD_eq_getElem?_getD,List.getElem?_append_left (by simp; omega),List.getElem?_take_of_lt h]
theorem dec_app {s:List UInt8} (hs:s ≠ []) (h:dec s ≠ badP) (t:List UInt8):dec (s.take (dec s).2 ++ t) = dec s:=by
 have hle:=dec_le hs
 have h':=h
 rw [dec_list] at h'
 have hlen:∀ n,n ≤ s.length → n ≤ (s.take n ++ t).length:=fun n hn => by simp; omega
 rcases decG_good h' with ⟨_,e,f⟩ | ⟨c,e,f⟩ | ⟨c,c',e,f⟩ | ⟨c,c',c'',e⟩
 ·have e2:(dec s).2 = 1:=by rw [dec_list,e]
  rw [e2] at hle ⊢
  rw [dec_list (s.take 1 ++ t),dec_list s,atN_app (by omega) hle,f,e]
 ·have e2:(dec s).2 = 2:=by rw [dec_list,e]
  rw [e2] at hle ⊢
  rw [dec_list (s.take 2 ++ t),dec_list s,atN_app (by omega) hle,atN_app (by omega) hle,decide_eq_true (show 1 < (s.take 2 ++ t).length from hlen 2 hle),f]
 ·have e2:(dec s).2 = 3:=by rw [dec_list,e]
  rw [e2] at hle ⊢
  have:=hlen 3 hle
  rw [dec_list (s.take 3 ++ t),dec_list s,atN_app (by omega) hle,atN_app (by omega) hle,atN_app (by omega) hle,decide_eq_true (show 1 < (s.take 3 ++ t).length by omega),decide_eq_true (show 2 < (s.take 3 ++ t).length by omega),f]
 ·have e2:(dec s).2 = 4:=by rw [dec_list,e]
  rw [e2] at hle ⊢
  have:=hlen 4 hle
  rw [dec_list (s.take 4 ++ t),dec_list s,atN_app (by omega) hle,atN_app (by omega) hle,atN_app (by omega) hle,atN_app (by omega) hle,decide_eq_true (show 1 < (s.take 4 ++ t).length by omega),decide_eq_true (show 2 < (s.take 4 ++ t).length by omega),decide_eq_true (show 3 < (s.take 4 ++ t).length by omega),c,c',c'']
theorem drop_lt {s:List UInt8} (hs:s ≠ []):(s.drop (dec s).2).length < s.length:=by
 have h0:0 < s.length:=List.length_pos_iff.2 hs
 have:=dec_pos s
 rw [List.length_drop]; omega
def chk (s:List UInt8):Int :=
 if h:s = [] then -1 else if dec s = badP then 0 else if chk (s.drop (dec s).2) < 0 then -1 else chk (s.drop (dec s).2) + (dec s).2
termination_by s.length
decreasing_by all_goals exact drop_lt h
def wide (s:List UInt8):Nat :=
 if h:s = [] then 0 else wide (s.drop (dec s).2) + 1
termination_by s.length
decreasing_by all_goals exact drop_lt h
theorem chk_nil:chk [] = -1:=by rw [chk,dif_pos rfl]
theorem chk_bad {s:List UInt8} (hs:s ≠ []) (h:dec s = badP):chk s = 0:=by rw [chk,dif_neg hs,if_pos h]
theorem chk_good {s:List UInt8} (hs:s ≠ []) (h:dec s ≠ badP):chk s = if chk (s.drop (dec s).2) < 0 then -1 else chk (s.drop (dec s).2) + (dec s).2:=by rw [chk,dif_neg hs,if_neg h]
theorem wide_nil:wide [] = 0:=by rw [wide,dif_pos rfl]
theorem wide_cons {s:List UInt8} (hs:s ≠ []):wide s = wide (s.drop (dec s).2) + 1:=by rw [wide,dif_neg hs]
theorem by_runes {p:List UInt8 → Prop} (h0:p []) (h1:∀ s,s ≠ [] → p (s.drop (dec s).2) → p s) (s:List UInt8):p s:=by
 have key:∀ n (s:List UInt8),s.length = n → p s:=by
  intro n
  induction n using Nat.strongRecOn with
  | _ n IH =>
   intro s hn
   by_cases hs:s = []
   ·rw [hs]; exact h0
   ·exact h1 s hs (IH _ (by rw [← hn]; exact drop_lt hs) _ rfl)
 exact key _ s rfl
theorem wide_le (s:List UInt8):wide s ≤ s.length:=by
 induction s using by_runes with
 | h0 => rw [wide_nil]; exact Nat.zero_le _
 | h1 s hs IH =>
  have h0:0 < s.length:=List.length_pos_iff.2 hs
  rw [wide_cons hs]
  have:=drop_lt hs
  omega
theorem app_eq {s t:List UInt8} (hs:s ≠ []) (h:dec s ≠ badP):dec (s ++ t) = dec s:=by
 have e:s ++ t = s.take (dec s).2 ++ (s.drop (dec s).2 ++ t):=by rw [← List.append_assoc,List.take_append_drop]
 rw [e]
 exact dec_app hs h _
theorem drop_ne {s:List UInt8} {p:Nat} (h:p < s.length):s.drop p ≠ []:=fun e => by
 have:=congrArg List.length e
 simp at this; omega
theorem next_le {s:List UInt8} {p:Nat} (h:p < s.length):p + lenAt s p ≤ s.length ∧ 1 ≤ lenAt s p:=by
 have h1:=dec_le (drop_ne h)
 have h2:=dec_pos (s.drop p)
 rw [lenAt_dec]
 rw [List.length_drop] at h1
 omega
theorem wide_next {s:List UInt8} {p:Nat} (h:p < s.length):wide (s.drop p) = wide (s.drop (p + lenAt s p)) + 1:=by
 rw [wide_cons (drop_ne h),lenAt_dec,List.drop_drop]
end Go.AM
namespace Go.AM
def moreB (c:Nat):Int:=if c < 128 then 0 else if 194 ≤ c ∧ c ≤ 223 then 1 else if 224 ≤ c ∧ c ≤ 239 then 2 else if 240 ≤ c ∧ c ≤ 244 then 3 else -1
def one (s:List UInt8):Nat:=if s = [] then 0 else if dec s = badP then 0 else (dec s).2
def oneG (b0 b1 b2 b3:Nat) (c1 c2 c3:Bool):Nat:=if decG b0 b1 b2 b3 c1 c2 c3 = badP then 0 else (decG b0 b1 b2 b3 c1 c2 c3).2
theorem one_eq {s:List UInt8} (hs:s ≠ []):one s = oneG (atN s 0) (atN s 1) (atN s 2) (atN s 3) (decide (1 < s.length)) (decide (2 < s.length)) (decide (3 < s.length)):=by
 unfold one oneG
 rw [if_neg hs,dec_list]
theorem atN_lt (s:List UInt8) (k:Nat):atN s k < 256:=UInt8.toNat_lt _
section
variable {b0 b1 b2 b3:Nat} {c1 c2 c3:Bool}
theorem oneG_0 (h:b0 < 128):oneG b0 b1 b2 b3 c1 c2 c3 = 1:=by
 have e:decG b0 b1 b2 b3 c1 c2 c3 = (b0,1):=by unfold decG; rw [if_pos h]
 unfold oneG badP
 rw [e,if_neg (by intro q; simp at q; omega)]
theorem oneG_bad (h:decG b0 b1 b2 b3 c1 c2 c3 = badP):oneG b0 b1 b2 b3 c1 c2 c3 = 0:=by unfold oneG; rw [if_pos h]
theorem oneG_none (h:moreB b0 = -1) (hb:b0 < 256):oneG b0 b1 b2 b3 c1 c2 c3 = 0:=by
 have h0:128 ≤ b0 ∧ b0 ≤ 193 ∨ 245 ≤ b0:=by
  unfold moreB at h
  repeat' split at h
  all_goals omega
 refine oneG_bad ?_
 unfold decG badP
 rw [if_neg (by omega)]
 split
 ·rename_i h1
  simp only [Bool.and_eq_true,beq_iff_eq] at h1
  rw [if_neg (by omega)]
 ·split
  ·rename_i h1
   simp only [Bool.and_eq_true,beq_iff_eq] at h1
   omega
  ·split
   ·rename_i h1
    simp only [Bool.and_eq_true,beq_iff_eq] at h1
    rw [if_neg]
    intro q
    simp only [Utf8.valid,Bool.and_eq_true,Bool.or_eq_true,decide_eq_true_eq] at q
    omega
   ·rfl
theorem oneG_1 (h:194 ≤ b0 ∧ b0 ≤ 223):oneG b0 b1 b2 b3 c1 c2 c3 = if c1 = true ∧ 128 ≤ b1 ∧ b1 ≤ 191 then 2 else 0:=by
 by_cases hc:c1 = true ∧ 128 ≤ b1 ∧ b1 ≤ 191
 ·rw [if_pos hc]
  have e:decG b0 b1 b2 b3 c1 c2 c3 = (b0 % 32 * 64 + b1 % 64,2):=by
   unfold decG
   rw [if_neg (by omega),if_pos (by simp only [Bool.and_eq_true,beq_iff_eq]; exact ⟨by omega,hc.1,by omega⟩),if_pos (by omega)]
  unfold oneG badP
  rw [e,if_neg (by intro q; simp at q)]
 ·rw [if_neg hc]
  refine oneG_bad ?_
  unfold decG badP
  rw [if_neg (by omega),if_neg (by simp only [Bool.and_eq_true,beq_iff_eq]; rintro ⟨_,q1,q2⟩; exact hc ⟨q1,by omega⟩),if_neg (by simp only [Bool.and_eq_true,beq_iff_eq]; omega),if_neg (by simp only [Bool.and_eq_true,beq_iff_eq]; omega)]
theorem oneG_2 (h:224 ≤ b0 ∧ b0 ≤ 239):oneG b0 b1 b2 b3 c1 c2 c3 = if c1 = true ∧ c2 = true ∧ (128 ≤ b1 ∧ b1 ≤ 191) ∧ (128 ≤ b2 ∧ b2 ≤ 191) ∧ 2048 ≤ b0 % 16 * 4096 + b1 % 64 * 64 + b2 % 64 ∧ ¬ (55296 ≤ b0 % 16 * 4096 + b1 % 64 * 64 + b2 % 64 ∧ b0 % 16 * 4096 + b1 % 64 * 64 + b2 % 64 ≤ 57343) then 3 else 0:=by
 by_cases hc:(b0 / 16 == 14 && (c1 && b1 / 64 == 2) && (c2 && b2 / 64 == 2)) = true
 ·have hc':=hc
  simp only [Bool.and_eq_true,beq_iff_eq] at hc'
  have e:decG b0 b1 b2 b3 c1 c2 c3 = if b0 % 16 * 4096 + b1 % 64 * 64 + b2 % 64 ≥ 0x800 && Utf8.valid (b0 % 16 * 4096 + b1 % 64 * 64 + b2 % 64:Nat) then (b0 % 16 * 4096 + b1 % 64 * 64 + b2 % 64,3) else (65533,1):=by
   unfold decG
   rw [if_neg (by omega),if_neg (by simp only [Bool.and_eq_true,beq_iff_eq]; omega),if_pos hc]
  unfold oneG badP
  rw [e]
  by_cases hv:(decide (b0 % 16 * 4096 + b1 % 64 * 64 + b2 % 64 ≥ 0x800) && Utf8.valid (b0 % 16 * 4096 + b1 % 64 * 64 + b2 % 64:Nat)) = true
  ·rw [if_pos hv,if_neg (by intro q; simp at q)]
   simp only [Utf8.valid,Bool.and_eq_true,Bool.or_eq_true,decide_eq_true_eq] at hv
   rw [if_pos ⟨hc'.1.2.1,hc'.2.1,by omega,by omega,by omega,by omega⟩]
  ·rw [if_neg hv,if_pos rfl,if_neg]
   rintro ⟨_,_,_,_,q1,q2⟩
   refine hv ?_
   simp only [Utf8.valid,Bool.and_eq_true,Bool.or_eq_true,decide_eq_true_eq]
   omega
 ·rw [if_neg (by
   rintro ⟨q1,q2,q3,q4,_⟩
   refine hc ?_
   simp only [Bool.and_eq_true,beq_iff_eq]
   exact ⟨⟨by omega,q1,by omega⟩,q2,by omega⟩)]
  refine oneG_bad ?_
  unfold decG badP
  rw [if_neg (by omega),if_neg (by simp only [Bool.and_eq_true,beq_iff_eq]; omega),if_neg hc,if_neg (by simp only [Bool.and_eq_true,beq_iff_eq]; omega)]
theorem oneG_3 (h:240 ≤ b0 ∧ b0 ≤ 244):oneG b0 b1 b2 b3 c1 c2 c3 = if c1 = true ∧ c2 = true ∧ c3 = true ∧ (128 ≤ b1 ∧ b1 ≤ 191) ∧ (128 ≤ b2 ∧ b2 ≤ 191) ∧ (128 ≤ b3 ∧ b3 ≤ 191) ∧ 65536 ≤ b0 % 8 * 262144 + b1 % 64 * 4096 + b2 % 64 * 64 + b3 % 64 ∧ b0 % 8 * 262144 + b1 % 64 * 4096 + b2 % 64 * 64 + b3 % 64 ≤ 1114111 then 4 else 0:=by
 by_cases hc:(b0 / 8 == 30 && (c1 && b1 / 64 == 2) && (c2 && b2 / 64 == 2) && (c3 && b3 / 64 == 2)) = true
 ·have hc':=hc
  simp only [Bool.and_eq_true,beq_iff_eq] at hc'
  have e:decG b0 b1 b2 b3 c1 c2 c3 = if b0 % 8 * 262144 + b1 % 64 * 4096 + b2 % 64 * 64 + b3 % 64 ≥ 0x10000 && Utf8.valid (b0 % 8 * 262144 + b1 % 64 * 4096 + b2 % 64 * 64 + b3 % 64:Nat) then (b0 % 8 * 262144 + b1 % 64 * 4096 + b2 % 64 * 64 + b3 % 64,4) else (65533,1):=by
   unfold decG
   rw [if_neg (by omega),if_neg (by simp only [Bool.and_eq_true,beq_iff_eq]; omega),if_neg (by simp only [Bool.and_eq_true,beq_iff_eq]; omega),if_pos hc]
  unfold oneG badP
  rw [e]
  by_cases hv:(decide (b0 % 8 * 262144 + b1 % 64 * 4096 + b2 % 64 * 64 + b3 % 64 ≥ 0x10000) && Utf8.valid (b0 % 8 * 262144 + b1 % 64 * 4096 + b2 % 64 * 64 + b3 % 64:Nat)) = true
  ·rw [if_pos hv,if_neg (by intro q; simp at q)]
   simp only [Utf8.valid,Bool.and_eq_true,Bool.or_eq_true,decide_eq_true_eq] at hv
   rw [if_pos ⟨hc'.1.1.2.1,hc'.1.2.1,hc'.2.1,by omega,by omega,by omega,by omega,by omega⟩]
  ·rw [if_neg hv,if_pos rfl,if_neg]
   rintro ⟨_,_,_,_,_,_,q1,q2⟩
   refine hv ?_
   simp only [Utf8.valid,Bool.and_eq_true,Bool.or_eq_true,decide_eq_true_eq]
   omega
 ·rw [if_neg (by
   rintro ⟨q1,q2,q3,q4,q5,q6,_⟩
   refine hc ?_
   simp only [Bool.and_eq_true,beq_iff_eq]
   exact ⟨⟨⟨by omega,q1,by omega⟩,q2,by omega⟩,q3,by omega⟩)]
  refine oneG_bad ?_
  unfold decG badP
  rw [if_neg (by omega),if_neg (by simp only [Bool.and_eq_true,beq_iff_eq]; omega),if_neg (by simp only [Bool.and_eq_true,beq_iff_eq]; omega),if_neg hc]
end
theorem one_le (s:List UInt8):one s ≤ s.length:=by
 unfold one
 split
 ·exact Nat.zero_le _
 ·rename_i h
  split
  ·exact Nat.zero_le _
  ·exact dec_le h
theorem max_one {s:List UInt8} (hs:s ≠ []):max (one s) 1 = (dec s).2:=by
 unfold one
 rw [if_neg hs]
 split
 ·rename_i h; rw [h]; rfl
 ·have:=dec_pos s; omega
end Go.AM
namespace Go.AM
def blanksOf (k:Nat):List UInt8:=List.replicate k 32
theorem blanksOf_length (k:Nat):(blanksOf k).length = k:=by unfold blanksOf; simp
theorem wide_blanks (k:Nat):wide (blanksOf k) = k:=by
 induction k with
 | zero => exact wide_nil
 | succ k IH =>
  have hd:dec (blanksOf (k + 1)) = (32,1):=by
   rw [dec_list]
   have:atN (blanksOf (k + 1)) 0 = 32:=rfl
   rw [this]
   unfold decG
   rw [if_pos (by decide)]
  rw [wide_cons (by intro q; have:=congrArg List.length q; rw [blanksOf_length] at this; cases this),hd]
  have:(blanksOf (k + 1)).drop 1 = blanksOf k:=rfl
  rw [this,IH]
end Go.AM
namespace Go.AM
structure Dc where
 kind:Int
 text:List UInt8
 n:Int
 kids:List Dc
structure Th where
 d:Dc
 flat:Bool
 n:Int
def kidsT (t:Th) (flat:Bool):List Th:=t.d.kids.map fun k => ⟨k,flat,t.n + t.d.n⟩
noncomputable def sizeT:List Th → Nat
 | [] => 0
 | t :: l => SizeOf.sizeOf t.d + sizeT l
theorem sizeT_app (a b:List Th):sizeT (a ++ b) = sizeT a + sizeT b:=by
 induction a with
 | nil => simp [sizeT]
 | cons t a IH => simp only [List.cons_append,sizeT,IH]; omega
theorem sizeD_pos (d:Dc):0 < SizeOf.sizeOf d:=by cases d; simp only [Dc.mk.sizeOf_spec]; omega
theorem sizeT_kids (t:Th) (flat:Bool):sizeT (kidsT t flat) < SizeOf.sizeOf t.d:=by
 have:∀ (l:List Dc) m,sizeT (l.map fun k => (⟨k,flat,m⟩:Th)) < SizeOf.sizeOf l:=by
  intro l m
  induction l with
  | nil => simp [sizeT]
  | cons d l IH => simp only [List.map_cons,sizeT,List.cons.sizeOf_spec]; omega
 have h:=this t.d.kids (t.n + t.d.n)
 unfold kidsT
 obtain ⟨d,fl,m⟩:=t
 cases d with
 | mk k x n l =>
  simp only [Dc.mk.sizeOf_spec] at h ⊢
  omega
theorem push_lt (t:Th) (flat:Bool) (r:List Th):sizeT (kidsT t flat ++ r) < sizeT (t :: r):=by
 have:=sizeT_kids t flat
 rw [sizeT_app]
 simp only [sizeT]; omega
theorem rest_lt (t:Th) (r:List Th):sizeT r < sizeT (t :: r):=by
 have:=sizeD_pos t.d
 simp only [sizeT]; omega
def firstLine (s:List UInt8):List UInt8:=(linesOf s).getD 0 []
def lastLine (s:List UInt8):List UInt8:=s.drop (s.length - lastLen s)
def hasFeed (s:List UInt8):Bool:=decide ((10:UInt8) ∈ s)
def fitsS (w:Int) (l:List Th) (col:Int):Bool :=
 if col ≤ w then
  match l with
  | [] => true
  | t :: r =>
   if t.d.kind = 1 then
    (if hasFeed t.d.text then decide (col + (wide (firstLine t.d.text):Int) ≤ w) else fitsS w r (col + (wide t.d.text:Int)))
   else if t.d.kind = 4 then true
   else if t.d.kind = 2 ∨ t.d.kind = 3 then (if t.flat then fitsS w r (if t.d.kind = 2 then col + 1 else col) else true)
   else fitsS w (kidsT t t.flat ++ r) col
 else false
termination_by sizeT l
decreasing_by
 ·exact rest_lt t r
 ·exact rest_lt t r
 ·exact push_lt t _ r
theorem kid_lt {d k:Dc} (h:k ∈ d.kids):SizeOf.sizeOf k < SizeOf.sizeOf d:=by
 cases d with
 | mk kd x n l =>
  have:=List.sizeOf_lt_of_mem (show k ∈ l from h)
  simp only [Dc.mk.sizeOf_spec]; omega
def hardD (d:Dc):Bool:=decide (d.kind = 4) || (decide (5 ≤ d.kind) && d.kids.attach.any fun k => hardD k.1)
termination_by SizeOf.sizeOf d
decreasing_by exact kid_lt k.2
def colS (s:List UInt8) (col:Int):Int:=if hasFeed s then (wide (lastLine s):Int) else col + (wide s:Int)
def endS (n:Int):List UInt8:=10 :: blanksOf n.toNat
def layS (w:Int) (l:List Th) (col:Int):List UInt8 :=
 match l with
 | [] => []
 | t :: r =>
  if t.d.kind = 1 then t.d.text ++ layS w r (colS t.d.text col)
  else if t.d.kind = 2 ∨ t.d.kind = 3 ∨ t.d.kind = 4 then
   (if !t.flat || t.d.kind = 4 then endS t.n ++ layS w r (t.n.toNat:Int)
   else if t.d.kind = 2 then 32 :: layS w r (col + 1)
   else layS w r col)
  else if t.d.kind = 6 then
   (if !hardD t.d && fitsS w (kidsT t true ++ r) col then layS w (kidsT t true ++ r) col else layS w (kidsT t t.flat ++ r) col)
  else layS w (kidsT t t.flat ++ r) col
termination_by sizeT l
decreasing_by
 all_goals first | exact rest_lt t r | exact push_lt t _ r
def rightD (d:Dc):Prop:=0 ≤ d.kind ∧ d.kind ≤ 7 ∧ (d.text ≠ [] ↔ d.kind = 1) ∧ (d.n ≠ 0 → d.kind = 5) ∧ -1000 ≤ d.n ∧ d.n ≤ 1000 ∧ ((d.kind = 5 ∨ d.kind = 6) → d.kids.length = 1) ∧ (d.kind < 5 → d.kids = []) ∧ ∀ k (_:k ∈ d.kids),rightD k
termination_by SizeOf.sizeOf d
decreasing_by exact kid_lt ‹_›
theorem right_kids {d k:Dc} (h:rightD d) (hk:k ∈ d.kids):rightD k:=by
 rw [rightD] at h
 exact h.2.2.2.2.2.2.2.2 k hk
theorem right_leaf {d:Dc} (h:rightD d) (hk:d.kind < 5):d.kids = []:=by
 rw [rightD] at h
 exact h.2.2.2.2.2.2.2.1 hk
theorem wide_app (t:List UInt8) (s:List UInt8):chk s < 0 → wide (s ++ t) = wide s + wide t:=by
 induction s using by_runes with
 | h0 => intro _; simp [wide_nil]
 | h1 s hs IH =>
  intro hc
  have h:dec s ≠ badP:=fun h => by rw [chk_bad hs h] at hc; omega
  have hle:=dec_le hs
  rw [chk_good hs h] at hc
  have hn:chk (s.drop (dec s).2) < 0:=by
   by_cases hh:chk (s.drop (dec s).2) < 0
   ·exact hh
   ·rw [if_neg hh] at hc; have:=dec_pos s; omega
  have hne:s ++ t ≠ []:=by simp [hs]
  have e:=app_eq (t:=t) hs h
  have e2:(s ++ t).drop (dec s).2 = s.drop (dec s).2 ++ t:=List.drop_append_of_le_length hle
  rw [wide_cons hne,wide_cons hs,e,e2,IH hn]; omega
theorem firstLine_feed {s:List UInt8} (h:(10:UInt8) ∈ s) (t:List UInt8):firstLine (s ++ t) = firstLine s:=by
 obtain ⟨a,b,e,hn,_⟩:=find_some s h
 subst e
 unfold firstLine
 rw [List.append_assoc,List.cons_append,linesOf_app _ _ hn,linesOf_app _ _ hn]; rfl
theorem firstLine_none {s:List UInt8} (h:(10:UInt8) ∉ s) (t:List UInt8):firstLine (s ++ t) = s ++ firstLine t:=by
 induction s with
 | nil => rfl
 | cons c s IH =>
  simp only [List.mem_cons,not_or] at h
  have IH:=IH h.2
  unfold firstLine at IH ⊢
  obtain ⟨l,ls,e⟩:=linesOf_ex (s ++ t)
  rw [e] at IH
  rw [List.cons_append,linesOf_cons (fun q => h.1 q.symm) e]
  simp only [List.getD_cons_zero] at IH ⊢
  rw [IH]; rfl
theorem wide_blank (t:List UInt8):wide (32 :: t) = wide t + 1:=by
 have:=wide_app t [32] (by
  have hd:dec [32] = (32,1):=by
   rw [dec_list]
   have:atN [32] 0 = 32:=rfl
   rw [this]
   unfold decG
   rw [if_pos (by decide)]
  rw [chk_good (by simp) (by rw [hd]; decide),hd]
  show (if chk [] < 0 then (-1:Int) else _) < 0
  rw [chk_nil]; decide)
 rw [List.singleton_append] at this
 have h1:=wide_blanks 1
 have:wide [32] = 1:=h1
 omega
def flatD (d:Dc):List UInt8:=(if d.kind = 1 then d.text else if d.kind = 2 then [32] else []) ++ (if 5 ≤ d.kind then (d.kids.attach.map fun k => flatD k.1).flatten else [])
termination_by SizeOf.sizeOf d
decreasing_by exact kid_lt k.2
theorem flatD_eq (d:Dc):flatD d = (if d.kind = 1 then d.text else if d.kind = 2 then [32] else []) ++ (if 5 ≤ d.kind then (d.kids.map fun k => flatD k).flatten else []):=by
 rw [flatD]
 congr 2
 conv => rhs; rw [← List.attach_map_subtype_val d.kids,List.map_map]
 rfl
def flatT (l:List Th):List UInt8:=(l.map fun t => flatD t.d).flatten
theorem flatT_cons (t:Th) (l:List Th):flatT (t :: l) = flatD t.d ++ flatT l:=by simp [flatT]
theorem flatT_app (a b:List Th):flatT (a ++ b) = flatT a ++ flatT b:=by simp [flatT]
theorem flatT_kids (t:Th) (flat:Bool):flatT (kidsT t flat) = (t.d.kids.map fun k => flatD k).flatten:=by
 unfold flatT kidsT
 rw [List.map_map]; rfl
theorem hardD_kids {d k:Dc} (h:hardD d = false) (h5:5 ≤ d.kind) (hk:k ∈ d.kids):hardD k = false:=by
 rw [hardD] at h
 simp only [Bool.or_eq_false_iff,Bool.and_eq_false_iff,decide_eq_false_iff_not] at h
 rcases h.2 with q | q
 ·exact absurd h5 q
 ·rw [List.any_eq_false] at q
  have:=q ⟨k,hk⟩ (List.mem_attach _ _)
  simpa using this
theorem hardD_not {d:Dc} (h:hardD d = false):¬ d.kind = 4:=by
 rw [hardD] at h
 simp only [Bool.or_eq_false_iff,decide_eq_false_iff_not] at h
 exact h.1
def goodD (d:Dc):Prop:=chk d.text < 0 ∧ ∀ k (_:k ∈ d.kids),goodD k
termination_by SizeOf.sizeOf d
decreasing_by exact kid_lt ‹_›
theorem good_kids {d k:Dc} (h:goodD d) (hk:k ∈ d.kids):goodD k:=by
 rw [goodD] at h
 exact h.2 k hk
theorem good_text {d:Dc} (h:goodD d):chk d.text < 0:=by
 rw [goodD] at h
 exact h.1
def Flats (l:List Th):Prop:=∀ t,t ∈ l → t.flat = true ∧ rightD t.d ∧ hardD t.d = false ∧ goodD t.d
theorem Flats.rest {t:Th} {r:List Th} (h:Flats (t :: r)):Flats r:=fun u hu => h u (by simp [hu])
theorem Flats.push {t:Th} {r:List Th} (h:Flats (t :: r)) (h5:5 ≤ t.d.kind) {fl:Bool} (hf:fl = true):Flats (kidsT t fl ++ r):=fun u hu => by
 rcases List.mem_append.1 hu with q | q
 ·obtain ⟨a1,a2,a3,a4⟩:=h t (by simp)
  unfold kidsT at q
  obtain ⟨k,hk,rfl⟩:=List.mem_map.1 q
  exact ⟨hf,right_kids a2 hk,hardD_kids a3 h5 hk,good_kids a4 hk⟩
 ·exact h u (by simp [q])
theorem flat_push {t:Th} {r:List Th} (h5:5 ≤ t.d.kind) (fl:Bool):flatT (kidsT t fl ++ r) = flatT (t :: r):=by
 rw [flatT_app,flatT_kids,flatT_cons,flatD_eq,if_neg (by omega),if_neg (by omega),if_pos h5]; rfl
theorem flat_leaf {t:Th} {r:List Th} (h5:¬ 5 ≤ t.d.kind):flatT (t :: r) = (if t.d.kind = 1 then t.d.text else if t.d.kind = 2 then [32] else []) ++ flatT r:=by
 rw [flatT_cons,flatD_eq,if_neg h5,List.append_nil]
theorem kids_none {t:Th} (h:rightD t.d) (h5:¬ 5 ≤ t.d.kind) (fl:Bool):kidsT t fl = []:=by
 unfold kidsT
 rw [right_leaf h (by omega)]; rfl
theorem fits_flat (w:Int):∀ (m:Nat) (l:List Th),sizeT l = m → Flats l → ∀ col,fitsS w l col = decide (col + (wide (firstLine (flatT l)):Int) ≤ w):=by
 intro m
 induction m using Nat.strongRecOn with
 | _ m IH =>
  intro l hm hf col
  cases l with
  | nil =>
   rw [fitsS]
   have:wide (firstLine (flatT [])) = 0:=wide_nil
   rw [this]
   by_cases h:col ≤ w
   ·rw [if_pos h,decide_eq_true (by omega)]
   ·rw [if_neg h,decide_eq_false (by omega)]
  | cons t r =>
   obtain ⟨f1,f2,f3,f4⟩:=hf t (by simp)
   have h1:∀ col,fitsS w r col = decide (col + (wide (firstLine (flatT r)):Int) ≤ w):=IH _ (by rw [← hm]; exact rest_lt t r) r rfl hf.rest
   rw [fitsS]
   by_cases h:col ≤ w
   ·rw [if_pos h]
    by_cases k1:t.d.kind = 1
    ·rw [if_pos k1,flat_leaf (by omega),if_pos k1]
     by_cases hfd:(10:UInt8) ∈ t.d.text
     ·rw [show hasFeed t.d.text = true from decide_eq_true hfd,if_pos rfl,firstLine_feed hfd]
     ·rw [show hasFeed t.d.text = false from decide_eq_false hfd,if_neg (by decide),h1,firstLine_none hfd,wide_app _ _ (good_text f4)]
      rw [decide_eq_decide]; omega
    ·rw [if_neg k1,if_neg (hardD_not f3)]
     by_cases k2:t.d.kind = 2 ∨ t.d.kind = 3
     ·rw [if_pos k2,f1,if_pos rfl,h1,flat_leaf (by omega),if_neg k1]
      by_cases k3:t.d.kind = 2
      ·rw [if_pos k3,if_pos k3,firstLine_none (by decide),List.singleton_append,wide_blank]
       rw [decide_eq_decide]; omega
      ·rw [if_neg k3,if_neg k3,List.nil_append]
     ·rw [if_neg k2]
      by_cases k5:5 ≤ t.d.kind
      ·rw [IH _ (by rw [← hm]; exact push_lt t _ r) _ rfl (hf.push k5 f1),flat_push k5]
      ·rw [kids_none f2 k5,List.nil_append,h1,flat_leaf k5,if_neg k1,if_neg (by omega),List.nil_append]
   ·rw [if_neg h,decide_eq_false (by omega)]
theorem lay_flat (w:Int):∀ (m:Nat) (l:List Th),sizeT l = m → Flats l → ∀ col,layS w l col = flatT l:=by
 intro m
 induction m using Nat.strongRecOn with
 | _ m IH =>
  intro l hm hf col
  cases l with
  | nil => rw [layS]; rfl
  | cons t r =>
   obtain ⟨f1,f2,f3,f4⟩:=hf t (by simp)
   have h1:∀ col,layS w r col = flatT r:=IH _ (by rw [← hm]; exact rest_lt t r) r rfl hf.rest
   have h2:5 ≤ t.d.kind → ∀ fl,fl = true → ∀ col,layS w (kidsT t fl ++ r) col = flatT (t :: r):=fun k5 fl hfl col => by
    rw [IH _ (by rw [← hm]; exact push_lt t _ r) _ rfl (hf.push k5 hfl),flat_push k5]
   rw [layS]
   by_cases k1:t.d.kind = 1
   ·rw [if_pos k1,flat_leaf (by omega),if_pos k1,h1]
   ·rw [if_neg k1]
    by_cases k2:t.d.kind = 2 ∨ t.d.kind = 3 ∨ t.d.kind = 4
    ·have k4:=hardD_not f3
     rw [if_pos k2,f1,flat_leaf (by omega),if_neg k1]
     have:(!true || decide (t.d.kind = 4)) = false:=by rw [decide_eq_false k4]; rfl
     simp only [this,Bool.false_eq_true,if_false]
     by_cases k3:t.d.kind = 2
     ·rw [if_pos k3,if_pos k3,h1]; rfl
     ·rw [if_neg k3,if_neg k3,h1]; rfl
    ·rw [if_neg k2]
     by_cases k5:5 ≤ t.d.kind
     ·split
      ·split
       ·exact h2 k5 true rfl col
       ·exact h2 k5 _ f1 col
      ·exact h2 k5 _ f1 col
     ·rw [if_neg (by omega),kids_none f2 k5,List.nil_append,h1,flat_leaf k5,if_neg k1,if_neg (by omega),List.nil_append]
theorem lay_group {w:Int} {g:Dc} (hr:rightD g) (hg:goodD g) (hh:hardD g = false) (hk:g.kind = 6) (hw:(wide (firstLine (flatD g)):Int) ≤ w):layS w [⟨g,false,0⟩] 0 = flatD g:=by
 have hf:Flats (kidsT ⟨g,false,0⟩ true ++ []):=fun u hu => by
  rw [List.append_nil] at hu
  unfold kidsT at hu
  obtain ⟨k,hk',rfl⟩:=List.mem_map.1 hu
  exact ⟨rfl,right_kids hr hk',hardD_kids hh (by omega) hk',good_kids hg hk'⟩
 have e:flatT (kidsT ⟨g,false,0⟩ true ++ []) = flatD g:=by
  rw [flat_push (t:=⟨g,false,0⟩) (by show (5:Int) ≤ g.kind; omega),flatT_cons]
  simp [flatT]
 rw [layS]
 simp only
 rw [if_neg (by omega),if_neg (by omega),if_pos hk,hh,fits_flat w _ _ rfl hf,e,decide_eq_true (by omega)]
 simp only [Bool.not_false,Bool.and_self,if_true]
 rw [lay_flat w _ _ rfl hf,e]
end Go.AM
namespace Go.AM
open Go.RowKit
noncomputable def esD (d:Dc):List V:=d.kids.attach.map fun k => .agg [.int .i64 k.1.kind,.str k.1.text,.int .i64 k.1.n,.osl 4 (esD k.1)]
termination_by SizeOf.sizeOf d
decreasing_by exact kid_lt k.2
noncomputable def encD (d:Dc):V:=.agg [.int .i64 d.kind,.str d.text,.int .i64 d.n,.osl 4 (esD d)]
theorem esD_eq (d:Dc):esD d = d.kids.map encD:=by
 rw [esD]
 conv => rhs; rw [← List.attach_map_subtype_val d.kids,List.map_map]
 rfl
theorem esD_len (d:Dc):(esD d).length = d.kids.length:=by rw [esD_eq,List.length_map]
noncomputable def encT (t:Th):V:=.agg [.int .i64 t.d.kind,.str t.d.text,.int .i64 t.d.n,.osl 4 (esD t.d),.bool t.flat,.int .i64 t.n]
def dc0:Dc:=⟨0,[],0,[]⟩
def th0:Th:=⟨dc0,false,0⟩
theorem encT_pub (seen:List Nat) (t:Th) (h:Heap):pub seen depth h (encT t) = some (encT t,h):=rfl
variable {P:Program}
theorem cells_whole {sz k:Nat} {es:List V} {vs:List V} (h1:1 < sz) (he:es[k]? = some (.agg vs)) (hl:vs.length = sz):cellsAt sz es (k * sz) sz = some vs:=by
 unfold cellsAt
 have e1:Nat.beq sz 1 = false:=by rw [Bool.eq_false_iff]; intro q; rw [Nat.beq_eq] at q; omega
 have e2:Nat.div (k * sz) sz = k:=Nat.mul_div_cancel _ (by omega)
 have e3:Nat.mod (k * sz) sz = 0:=Nat.mul_mod_left _ _
 rw [e1,e2,e3]
 simp only [cond_false]
 rw [List.at_eq es k,he]
 simp only
 have e4:Nat.ble (Nat.add 0 sz) (List.len (V.agg vs).cells) = true:=by
  rw [Nat.ble_eq,List.len_eq]
  change 0 + sz ≤ vs.length
  omega
 rw [e4,List.takeN_eq,List.dropN_eq]
 change some (vs.take sz) = _
 rw [List.take_of_length_le (by omega)]
theorem pack_whole {t:TypeId} {vs:List V} (ha:aggOf P t = some true) (hl:vs.length = size P t):pack P t vs = some (.agg vs):=by
 unfold pack
 rw [ha]
 simp only
 have e:Nat.beq (List.len vs) (size P t) = true:=by rw [Nat.beq_eq,List.len_eq]; exact hl
 rw [e]; rfl
theorem load_gel {h:Heap} {t sz k:Nat} {es:List V} {vs:List V} (ha:aggOf P t = some true) (hs:size P t = sz) (h1:1 < sz) (he:es[k]? = some (.agg vs)) (hl:vs.length = sz):load P h t (.gptr sz es (k * sz)) = some (.agg vs):=by
 change packO P t (cellsAt sz es (k * sz) (size P t)) = _
 rw [hs,cells_whole h1 he hl]
 exact pack_whole ha (hl.trans hs.symm)
theorem load_el {h:Heap} {t ty sz r ver k pub:Nat} {cap:Option Nat} {es:List V} {vs:List V} (ha:aggOf P t = some true) (hs:size P t = sz) (h1:1 < sz) (hr:h.get r = .row ver ty sz pub cap es) (he:es[k]? = some (.agg vs)) (hl:vs.length = sz):load P h t (.ptr r ver (k * sz)) = some (.agg vs):=by
 unfold load
 simp only
 rw [hr]
 simp only [Nat.beq_refl,cond_true]
 rw [hs,cells_whole h1 he hl]
 exact pack_whole ha (hl.trans hs.symm)
theorem cells_one {sz k j:Nat} {es:List V} {vs:List V} {x:V} (h1:1 < sz) (he:es[k]? = some (.agg vs)) (hl:vs.length = sz) (hx:vs[j]? = some x):cellsAt sz es (k * sz + j) 1 = some [x]:=by
 unfold cellsAt
 have hj:j < sz:=by have:=lt_of_getElem?_list hx; omega
 have e1:Nat.beq sz 1 = false:=by rw [Bool.eq_false_iff]; intro q; rw [Nat.beq_eq] at q; omega
 have e2:Nat.div (k * sz + j) sz = k:=by
  change (k * sz + j) / sz = k
  rw [Nat.add_comm,Nat.add_mul_div_right _ _ (by omega),Nat.div_eq_of_lt hj,Nat.zero_add]
 have e3:Nat.mod (k * sz + j) sz = j:=by
  change (k * sz + j) % sz = j
  rw [Nat.add_comm,Nat.add_mul_mod_self_right,Nat.mod_eq_of_lt hj]
 rw [e1,e2,e3]
 simp only [cond_false]
 rw [List.at_eq es k,he]
 simp only
 have e4:Nat.ble (Nat.add j 1) (List.len (V.agg vs).cells) = true:=by
  rw [Nat.ble_eq,List.len_eq]
  change j + 1 ≤ vs.length
  omega
 rw [e4,List.takeN_eq,List.dropN_eq]
 change some ((vs.drop j).take 1) = _
 obtain ⟨a,b⟩:=List.getElem?_eq_some_iff.1 hx
 rw [List.drop_eq_getElem_cons a,b]; rfl
theorem pack_one {t:TypeId} {x:V} (ha:aggOf P t = some false) (hc:x.cells = [x]):pack P t [x] = some x:=by
 unfold pack
 rw [ha]
theorem load_gf {h:Heap} {t sz k j i:Nat} {es:List V} {vs:List V} {x:V} (ha:aggOf P t = some false) (hs:size P t = 1) (h1:1 < sz) (hi:i = k * sz + j) (he:es[k]? = some (.agg vs)) (hl:vs.length = sz) (hx:vs[j]? = some x) (hc:x.cells = [x]):load P h t (.gptr sz es i) = some x:=by
 subst hi
 change packO P t (cellsAt sz es (k * sz + j) (size P t)) = _
 rw [hs,cells_one h1 he hl hx]
 change pack P t [x] = _
 exact pack_one ha hc
theorem map_at {α β:Type} (f:α → β) (l:List α) (d:α) {k:Nat} (hk:k < l.length):(l.map f)[k]? = some (f (l.getD k d)):=by
 rw [List.getElem?_map,List.getElem?_eq_getElem hk,List.getD_eq_getElem?_getD,List.getElem?_eq_getElem hk]; rfl
def szD (d:Dc):Nat:=1 + d.text.length + d.n.natAbs + (d.kids.attach.map fun k => szD k.1).sum
termination_by SizeOf.sizeOf d
decreasing_by exact kid_lt k.2
theorem szD_eq (d:Dc):szD d = 1 + d.text.length + d.n.natAbs + (d.kids.map szD).sum:=by
 rw [szD]
 congr 2
 conv => rhs; rw [← List.attach_map_subtype_val d.kids,List.map_map]
 rfl
theorem sum_ge {l:List Nat} (k:Nat):l.getD k 0 ≤ l.sum:=by
 induction l generalizing k with
 | nil => simp
 | cons x l IH =>
  cases k with
  | zero => simp
  | succ k => simp only [List.getD_cons_succ,List.sum_cons]; have:=IH k; omega
theorem getD_map {α β:Type} (f:α → β) (l:List α) (d:α) (e:β) {k:Nat} (hk:k < l.length):(l.map f).getD k e = f (l.getD k d):=by
 rw [List.getD_eq_getElem?_getD,map_at f l d hk]; rfl
theorem szD_kid (d:Dc) {k:Nat} (hk:k < d.kids.length):szD (d.kids.getD k dc0) < szD d:=by
 have h:=sum_ge (l:=d.kids.map szD) k
 rw [getD_map szD d.kids dc0 0 hk] at h
 rw [szD_eq d]; omega
theorem szD_pos (d:Dc):1 ≤ szD d:=by rw [szD_eq]; omega
theorem sum_len (l:List Dc):l.length ≤ (l.map szD).sum:=by
 induction l with
 | nil => simp
 | cons x l IH => have:=szD_pos x; simp only [List.map_cons,List.sum_cons,List.length_cons]; omega
theorem szD_len (d:Dc):d.kids.length < szD d:=by have:=sum_len d.kids; rw [szD_eq]; omega
theorem szD_text (d:Dc):d.text.length < szD d:=by rw [szD_eq]; omega
theorem szD_n (d:Dc):d.n.natAbs < szD d:=by rw [szD_eq]; omega
theorem getD_mem (l:List Dc) {k:Nat} (hk:k < l.length):l.getD k dc0 ∈ l:=by
 rw [List.getD_eq_getElem?_getD,List.getElem?_eq_getElem hk]; exact List.getElem_mem hk
theorem right_kid {d:Dc} (h:rightD d) {k:Nat} (hk:k < d.kids.length):rightD (d.kids.getD k dc0):=right_kids h (getD_mem _ hk)
theorem right_kind {d:Dc} (h:rightD d):0 ≤ d.kind ∧ d.kind ≤ 7:=by rw [rightD] at h; exact ⟨h.1,h.2.1⟩
theorem hardD_eq (d:Dc):hardD d = (decide (d.kind = 4) || (decide (5 ≤ d.kind) && d.kids.any hardD)):=by
 rw [hardD]
 congr 2
 rw [Bool.eq_iff_iff,List.any_eq_true,List.any_eq_true]
 constructor
 ·rintro ⟨x,_,h⟩; exact ⟨x.1,x.2,h⟩
 ·rintro ⟨x,hx,h⟩; exact ⟨⟨x,hx⟩,List.mem_attach _ _,h⟩
theorem any_take {α:Type} (f:α → Bool) (l:List α) (d:α) (i:Nat) (hi:i < l.length):(l.take (i + 1)).any f = ((l.take i).any f || f (l.getD i d)):=by
 rw [List.take_add_one,List.any_append,List.getD_eq_getElem?_getD,List.getElem?_eq_getElem hi]
 simp
theorem flatten_len (f:Dc → List UInt8) (hf:∀ d,(f d).length ≤ szD d) (l:List Dc):((l.map f).flatten).length ≤ (l.map szD).sum:=by
 induction l with
 | nil => simp
 | cons x l IH => have:=hf x; simp only [List.map_cons,List.flatten_cons,List.length_append,List.sum_cons]; omega
theorem flatD_len (d:Dc):(flatD d).length ≤ szD d:=by
 have key:∀ (n:Nat) (d:Dc),szD d ≤ n → (flatD d).length ≤ szD d:=by
  intro n
  induction n with
  | zero => intro d h; have:=szD_pos d; omega
  | succ n IH =>
   intro d h
   have hs:=szD_eq d
   rw [flatD_eq,List.length_append]
   have h1:(if d.kind = 1 then d.text else if d.kind = 2 then [32] else []).length ≤ 1 + d.text.length:=by
    split
    ·omega
    ·split <;> simp
   have h2:(if 5 ≤ d.kind then (d.kids.map fun k => flatD k).flatten else []).length ≤ (d.kids.map szD).sum:=by
    split
    ·have:∀ l:List Dc,(∀ k,k ∈ l → szD k ≤ n) → ((l.map fun k => flatD k).flatten).length ≤ (l.map szD).sum:=by
      intro l
      induction l with
      | nil => intro _; simp
      | cons x l IH2 =>
       intro hk
       have a:=IH x (hk x (by simp))
       have b:=IH2 fun k hk' => hk k (by simp [hk'])
       simp only [List.map_cons,List.flatten_cons,List.length_append,List.sum_cons]; omega
     refine this _ fun k hk => ?_
     obtain ⟨i,hi,e⟩:=List.getElem_of_mem hk
     have:=szD_kid d hi
     rw [List.getD_eq_getElem?_getD,List.getElem?_eq_getElem hi,Option.getD_some,e] at this
     omega
    ·simp
   omega
 exact key _ d (Nat.le_refl _)
def catK (f:Dc → List UInt8) (l:List Dc) (i:Nat):List UInt8:=((l.take i).map f).flatten
theorem catK_succ (f:Dc → List UInt8) (l:List Dc) {i:Nat} (hi:i < l.length):catK f l (i + 1) = catK f l i ++ f (l.getD i dc0):=by
 unfold catK
 rw [List.take_add_one,List.map_append,List.flatten_append,List.getD_eq_getElem?_getD,List.getElem?_eq_getElem hi]
 simp
theorem catK_all (f:Dc → List UInt8) (l:List Dc):catK f l l.length = (l.map f).flatten:=by
 unfold catK
 rw [List.take_length]
theorem catK_len {f:Dc → List UInt8} (hf:∀ d,(f d).length ≤ szD d) (d:Dc) (i:Nat):(catK f d.kids i).length + d.text.length < szD d + 1:=by
 have h1:=flatten_len f hf (d.kids.take i)
 have h2:((d.kids.take i).map szD).sum ≤ (d.kids.map szD).sum:=by
  have e:d.kids = d.kids.take i ++ d.kids.drop i:=(List.take_append_drop i _).symm
  conv => rhs; rw [e]
  rw [List.map_append,List.sum_append]; omega
 have:=szD_eq d
 unfold catK
 omega
def rightO (d:Dc):Prop:=0 ≤ d.kind ∧ d.kind ≤ 7 ∧ (d.text ≠ [] ↔ d.kind = 1) ∧ (d.n ≠ 0 → d.kind = 5) ∧ -1000 ≤ d.n ∧ d.n ≤ 1000 ∧ ((d.kind = 5 ∨ d.kind = 6) → d.kids.length = 1) ∧ (d.kind < 5 → d.kids = [])
theorem rightD_iff (d:Dc):rightD d ↔ rightO d ∧ ∀ k,k < d.kids.length → rightD (d.kids.getD k dc0):=by
 rw [rightD]
 unfold rightO
 constructor
 ·rintro ⟨a1,a2,a3,a4,a5,a6,a7,a8,a9⟩
  exact ⟨⟨a1,a2,a3,a4,a5,a6,a7,a8⟩,fun k hk => a9 _ (getD_mem _ hk)⟩
 ·rintro ⟨⟨a1,a2,a3,a4,a5,a6,a7,a8⟩,h⟩
  refine ⟨a1,a2,a3,a4,a5,a6,a7,a8,fun k hk => ?_⟩
  obtain ⟨i,hi,e⟩:=List.getElem_of_mem hk
  have:=h i hi
  rw [List.getD_eq_getElem?_getD,List.getElem?_eq_getElem hi,Option.getD_some,e] at this
  exact this
theorem neqB {p q:Prop} [Decidable p] [Decidable q]:((Bool.rec (!decide q) (decide q) (!decide p):Bool) = true) ↔ (¬ p ↔ q):=by
 by_cases hp:p <;> by_cases hq:q <;> simp [hp,hq]
theorem gk_doc {k n:Int} {t:List UInt8} {es:List V} {c:Option Nat} {l:List Dc} (he:es = l.map encD):Gk (.agg [.int .i64 k,.str t,.int .i64 n,.gsl 4 es c]) (encD ⟨k,t,n,l⟩):=by
 unfold encD
 rw [esD_eq]
 subst he
 refine .agg rfl fun i x y p q => ?_
 rcases i with _ | _ | _ | _ | i <;> simp at p q
 ·subst p; subst q; exact .refl _
 ·subst p; subst q; exact .refl _
 ·subst p; subst q; exact .refl _
 ·subst p; subst q; exact .gsl
theorem gk_docN {k n:Int} {t:List UInt8}:Gk (.agg [.int .i64 k,.str t,.int .i64 n,.nils]) (encD ⟨k,t,n,[]⟩):=by
 unfold encD
 rw [esD_eq]
 refine .agg rfl fun i x y p q => ?_
 rcases i with _ | _ | _ | _ | i <;> simp at p q
 ·subst p; subst q; exact .refl _
 ·subst p; subst q; exact .refl _
 ·subst p; subst q; exact .refl _
 ·subst p; subst q; exact .nils 4
theorem wk_doc {k n:Int} {t:List UInt8} {es:List V} {c:Option Nat} {l:List Dc} (he:es = l.map encD):Wk (.agg [.int .i64 k,.str t,.int .i64 n,.gsl 4 es c]) (encD ⟨k,t,n,l⟩):=by
 unfold encD
 rw [esD_eq]
 subst he
 exact .aggs (.cons (.refl _) (.cons (.refl _) (.cons (.refl _) (.cons .gsl .nil))))
theorem wk_docN {k n:Int} {t:List UInt8}:Wk (.agg [.int .i64 k,.str t,.int .i64 n,.nils]) (encD ⟨k,t,n,[]⟩):=by
 unfold encD
 rw [esD_eq]
 exact .aggs (.cons (.refl _) (.cons (.refl _) (.cons (.refl _) (.cons (.nils 4) .nil))))
theorem wke_docN {k n:Int} {t:List UInt8}:Wke (.agg [.int .i64 k,.str t,.int .i64 n,.nils]) (encD ⟨k,t,n,[]⟩):=by
 refine ⟨rfl,rfl,fun j x y p q => ?_⟩
 unfold encD at q
 rw [esD_eq] at q
 change [V.int .i64 k,.str t,.int .i64 n,.nils][j]? = some x at p
 change [V.int .i64 k,.str t,.int .i64 n,.osl 4 []][j]? = some y at q
 rcases j with _ | _ | _ | _ | j <;> simp at p q
 ·subst p; subst q; exact .refl _
 ·subst p; subst q; exact .refl _
 ·subst p; subst q; exact .refl _
 ·subst p; subst q; exact .nils 4
theorem wke_app {keep:List Dc} {d:Dc} {x:V} (hx:Wke x (encD d)):∀ (i:Nat) e e',(keep.map encD ++ [x])[i]? = some e → ((keep ++ [d]).map encD)[i]? = some e' → Wke e e':=fun i e e' p q => by
 rw [List.map_append] at q
 rcases Nat.lt_or_ge i (keep.map encD).length with h | h
 ·rw [List.getElem?_append_left h] at p q
  rw [p] at q; cases q
  obtain ⟨a,_,rfl⟩:=List.mem_map.1 (List.mem_of_getElem? p)
  exact .refl rfl
 ·rw [List.getElem?_append_right h] at p q
  cases hi:i - (keep.map encD).length with
  | zero => rw [hi] at p q; cases p; cases q; exact hx
  | succ n => rw [hi] at p; simp at p
theorem encD_mk (k:Int) (t:List UInt8) (n:Int) (l:List Dc):encD ⟨k,t,n,l⟩ = .agg [.int .i64 k,.str t,.int .i64 n,.osl 4 (l.map encD)]:=by
 change V.agg [.int .i64 k,.str t,.int .i64 n,.osl 4 (esD ⟨k,t,n,l⟩)] = _
 rw [esD_eq]
theorem wke_take {l:List Dc} {n:Nat}:∀ (i:Nat) e e',(l.map encD)[i]? = some e → ((l.take n).map encD)[i]? = some e' → Wke e e':=fun i e e' p q => by
 rw [List.map_take,List.getElem?_take] at q
 split at q
 ·rw [p] at q; cases q
  obtain ⟨a,_,rfl⟩:=List.mem_map.1 (List.mem_of_getElem? p)
  exact .refl rfl
 ·cases q
theorem wk_osl {sz:Nat} {es:List V} (h:es ≠ []):Wk (.osl sz es) (.gsl sz es none):=fun g v hR => by
 cases hR with
 | gnd hg =>
  cases hg with
  | oslN => exact absurd rfl h
  | oslS hg => exact .gnd hg
theorem wke_pair {a x y:V} (h:Wk x y):Wke (.agg [a,x]) (.agg [a,y]):=by
 refine ⟨rfl,rfl,fun j u w p q => ?_⟩
 change [a,x][j]? = some u at p
 change [a,y][j]? = some w at q
 rcases j with _ | _ | j <;> simp at p q
 ·subst p; subst q; exact .refl _
 ·subst p; subst q; exact h
theorem wke_row {e e':V} (h:Wke e e'):∀ (i:Nat) x y,[e][i]? = some x → [e'][i]? = some y → Wke x y:=fun i x y p q => by
 cases i with
 | zero => cases p; cases q; exact h
 | succ i => simp at p
theorem wke_pre {a b:List V} (hf:∀ e,e ∈ a → e.flat = true):∀ (i:Nat) e e',(a ++ b)[i]? = some e → a[i]? = some e' → Wke e e':=fun i e e' p q => by
 rw [List.getElem?_append_left (lt_of_getElem?_list q)] at p
 rw [p] at q; cases q
 exact .refl (hf e (List.mem_of_getElem? p))
theorem flat_encT {l:List Th}:∀ e,e ∈ l.map encT → e.flat = true:=fun e he => by
 obtain ⟨t,_,rfl⟩:=List.mem_map.1 he
 rfl
end Go.AM
namespace Go.AM
def textsD:List (List UInt8):=[[97],[98,99,100],[195,169,226,130,172],[120,10,121],[32],[40],[97,32,108,111,110,103,32,119,111,114,100]]
def rowD (l:List Dc):Dc :=
 match l.filter fun d => !decide (d.kind = 0) with
 | [] => dc0
 | [x] => x
 | l => ⟨7,[],0,l⟩
def stepD' (l:List Dc) (a b:Nat):List Dc :=
 if a % 10 < 3 then l ++ [⟨1,textsD.getD (b % 7) [],0,[]⟩]
 else if a % 10 < 5 then l ++ [⟨2,[],0,[]⟩]
 else if a % 10 < 6 then l ++ [⟨3 + (b / 200:Nat),[],0,[]⟩]
 else if a % 10 < 7 then l.take (l.length - min (b % 4) l.length) ++ [⟨5,[],((b % 5:Nat):Int) - 2 + 5 * ((b % 2:Nat):Int),[⟨7,[],0,l.drop (l.length - min (b % 4) l.length)⟩]⟩]
 else if a % 10 < 9 then l.take (l.length - min (b % 4) l.length) ++ [⟨6,[],0,[⟨7,[],0,l.drop (l.length - min (b % 4) l.length)⟩]⟩]
 else l.take (l.length - min (b % 4) l.length) ++ [rowD (l.drop (l.length - min (b % 4) l.length))]
def docTo (c:List UInt8):Nat → List Dc
 | 0 => []
 | n + 1 => stepD' (docTo c n) (c.getD (2 * n) 0).toNat (c.getD (2 * n + 1) 0).toNat
def docN (c:List UInt8):Nat:=min (c.length / 2) 40
def docOf (c:List UInt8):Dc:=⟨7,[],0,docTo c (docN c)⟩
theorem step_say (l:List Dc) (a b:Nat) (h:a % 10 < 3):stepD' l a b = l ++ [⟨1,textsD.getD (b % 7) [],0,[]⟩]:=by unfold stepD'; rw [if_pos h]
theorem step_blank (l:List Dc) (a b:Nat) (h1:¬ a % 10 < 3) (h:a % 10 < 5):stepD' l a b = l ++ [⟨2,[],0,[]⟩]:=by unfold stepD'; rw [if_neg h1,if_pos h]
theorem step_break (l:List Dc) (a b:Nat) (h:a % 10 = 5):stepD' l a b = l ++ [⟨3 + (b / 200:Nat),[],0,[]⟩]:=by unfold stepD'; rw [if_neg (by omega),if_neg (by omega),if_pos (by omega)]
theorem step_in (l:List Dc) (a b:Nat) (h:a % 10 = 6):stepD' l a b = l.take (l.length - min (b % 4) l.length) ++ [⟨5,[],((b % 5:Nat):Int) - 2 + 5 * ((b % 2:Nat):Int),[⟨7,[],0,l.drop (l.length - min (b % 4) l.length)⟩]⟩]:=by unfold stepD'; rw [if_neg (by omega),if_neg (by omega),if_neg (by omega),if_pos (by omega)]
theorem step_fit (l:List Dc) (a b:Nat) (h1:7 ≤ a % 10) (h:a % 10 < 9):stepD' l a b = l.take (l.length - min (b % 4) l.length) ++ [⟨6,[],0,[⟨7,[],0,l.drop (l.length - min (b % 4) l.length)⟩]⟩]:=by unfold stepD'; rw [if_neg (by omega),if_neg (by omega),if_neg (by omega),if_neg (by omega),if_pos h]
theorem step_row (l:List Dc) (a b:Nat) (h:9 ≤ a % 10):stepD' l a b = l.take (l.length - min (b % 4) l.length) ++ [rowD (l.drop (l.length - min (b % 4) l.length))]:=by unfold stepD'; rw [if_neg (by omega),if_neg (by omega),if_neg (by omega),if_neg (by omega),if_neg (by omega)]
theorem docTo_step (l:List UInt8) {i:Nat} (h2:i % 2 = 0):docTo l (i / 2 + 1) = stepD' (docTo l (i / 2)) (l.getD i 0).toNat (l.getD (i + 1) 0).toNat:=by
 rw [docTo,show 2 * (i / 2) = i by omega]
def sumD (l:List Dc):Nat:=(l.map szD).sum
theorem sumD_app (a b:List Dc):sumD (a ++ b) = sumD a + sumD b:=by unfold sumD; rw [List.map_append,List.sum_append]
theorem sumD_one (d:Dc):sumD [d] = szD d:=by simp [sumD]
theorem sumD_cut (l:List Dc) (k:Nat):sumD (l.take k) + sumD (l.drop k) = sumD l:=by rw [← sumD_app,List.take_append_drop]
theorem szD_node (k:Int) (t:List UInt8) (n:Int) (l:List Dc):szD ⟨k,t,n,l⟩ = 1 + t.length + n.natAbs + sumD l:=by rw [szD_eq]; rfl
theorem sumD_filter (p:Dc → Bool) (l:List Dc):sumD (l.filter p) ≤ sumD l:=by
 induction l with
 | nil => exact Nat.le_refl _
 | cons x l IH =>
  rw [List.filter_cons]
  have e:sumD (x :: l) = szD x + sumD l:=by simp [sumD]
  split
  ·have e2:sumD (x :: l.filter p) = szD x + sumD (l.filter p):=by simp [sumD]
   omega
  ·omega
theorem rowD_sz (l:List Dc):szD (rowD l) ≤ 1 + sumD l:=by
 have h:=sumD_filter (fun d => !decide (d.kind = 0)) l
 unfold rowD
 split
 ·have:szD dc0 = 1:=by unfold dc0; rw [szD_node]; rfl
  omega
 ·rename_i x e
  rw [e,sumD_one] at h; omega
 ·rename_i l' e1 e2
  rw [szD_node]; simp; omega
theorem textsD_len (k:Nat):(textsD.getD k []).length ≤ 11:=by
 rcases Nat.lt_or_ge k 7 with h | h
 ·have:∀ k:Fin 7,(textsD.getD k.1 []).length ≤ 11:=by decide
  exact this ⟨k,h⟩
 ·rw [List.getD_eq_getElem?_getD,List.getElem?_eq_none (by exact h)]; simp
theorem stepD_sz (l:List Dc) (a b:Nat) (hb:b < 256):sumD (stepD' l a b) ≤ sumD l + 12:=by
 have hc:=sumD_cut l (l.length - min (b % 4) l.length)
 have hr:=rowD_sz (l.drop (l.length - min (b % 4) l.length))
 have ht:=textsD_len (b % 7)
 unfold stepD'
 split
 ·rw [sumD_app,sumD_one,szD_node]; simp [sumD] at *; omega
 ·split
  ·rw [sumD_app,sumD_one,szD_node]; simp [sumD]
  ·split
   ·rw [sumD_app,sumD_one,szD_node]; simp [sumD]
   ·split
    ·rw [sumD_app,sumD_one,szD_node,sumD_one,szD_node]; simp only [List.length_nil]; omega
    ·split
     ·rw [sumD_app,sumD_one,szD_node,sumD_one,szD_node]; simp only [List.length_nil]; omega
     ·rw [sumD_app,sumD_one]; omega
theorem docTo_sz (c:List UInt8) (n:Nat):sumD (docTo c n) ≤ 12 * n:=by
 induction n with
 | zero => exact Nat.le_refl _
 | succ n IH =>
  have:=stepD_sz (docTo c n) (c.getD (2 * n) 0).toNat (c.getD (2 * n + 1) 0).toNat (c.getD (2 * n + 1) 0).toNat_lt
  change sumD (stepD' _ _ _) ≤ _
  omega
theorem docOf_sz (c:List UInt8):szD (docOf c) ≤ 481:=by
 unfold docOf
 rw [szD_node]
 have:=docTo_sz c (docN c)
 have:docN c ≤ 40:=Nat.min_le_right _ _
 simp only [List.length_nil]; omega
theorem docTo_len (c:List UInt8) (n:Nat):(docTo c n).length ≤ 12 * n:=Nat.le_trans (sum_len _) (docTo_sz c n)
end Go.AM
namespace Go.AM
def sumT (l:List Th):Nat:=(l.map fun t => szD t.d).sum
theorem sumT_nil:sumT [] = 0:=rfl
theorem sumT_cons (t:Th) (l:List Th):sumT (t :: l) = szD t.d + sumT l:=by simp [sumT]
theorem sumT_app (a b:List Th):sumT (a ++ b) = sumT a + sumT b:=by simp [sumT]
theorem sumT_kids (t:Th) (fl:Bool):sumT (kidsT t fl) < szD t.d:=by
 rw [szD_eq]
 unfold sumT kidsT
 rw [List.map_map]
 have:((fun t:Th => szD t.d) ∘ fun k => (⟨k,fl,t.n + t.d.n⟩:Th)) = szD:=rfl
 rw [this]; omega
theorem sumT_len (l:List Th):l.length ≤ sumT l:=by
 induction l with
 | nil => exact Nat.le_refl _
 | cons t l IH => have:=szD_pos t.d; rw [sumT_cons,List.length_cons]; omega
def okT (t:Th):Prop:=rightD t.d ∧ t.n.natAbs + szD t.d ≤ 100000
theorem okT_kids {t:Th} (h:okT t) (fl:Bool):∀ k,k ∈ kidsT t fl → okT k:=fun k hk => by
 unfold kidsT at hk
 obtain ⟨d,hd,rfl⟩:=List.mem_map.1 hk
 refine ⟨right_kids h.1 hd,?_⟩
 obtain ⟨i,hi,e⟩:=List.getElem_of_mem hd
 have h1:=sum_ge (l:=t.d.kids.map szD) i
 rw [getD_map szD t.d.kids dc0 0 hi,List.getD_eq_getElem?_getD,List.getElem?_eq_getElem hi,Option.getD_some,e] at h1
 have h2:=szD_eq t.d
 have h3:=h.2
 simp only
 omega
theorem okT_bound {t:Th} (h:okT t):-1000000000 ≤ t.n + t.d.n ∧ t.n + t.d.n ≤ 1000000000:=by
 have h1:=szD_n t.d
 have h3:=h.2
 omega
theorem kidsT_len (t:Th) (fl:Bool):(kidsT t fl).length = t.d.kids.length:=by unfold kidsT; rw [List.length_map]
theorem fits_over {w col:Int} (l:List Th) (h:¬ col ≤ w):fitsS w l col = false:=by
 unfold fitsS
 exact if_neg h
theorem fits_nil {w col:Int} (h:col ≤ w):fitsS w [] col = true:=by
 unfold fitsS
 exact if_pos h
theorem fits_cons {w col:Int} {t:Th} {r:List Th} (h:col ≤ w):fitsS w (t :: r) col = if t.d.kind = 1 then (if hasFeed t.d.text then decide (col + (wide (firstLine t.d.text):Int) ≤ w) else fitsS w r (col + (wide t.d.text:Int)))
   else if t.d.kind = 4 then true
   else if t.d.kind = 2 ∨ t.d.kind = 3 then (if t.flat then fitsS w r (if t.d.kind = 2 then col + 1 else col) else true)
   else fitsS w (kidsT t t.flat ++ r) col:=by
 conv => lhs; unfold fitsS
 rw [if_pos h]
theorem hasFeed_iff (s:List UInt8):hasFeed s = true ↔ (10:UInt8) ∈ s:=by unfold hasFeed; exact decide_eq_true_iff
theorem feed_split {s:List UInt8} (h:(10:UInt8) ∈ s):∃ a b,s = a ++ 10 :: b ∧ (10:UInt8) ∉ a ∧ firstLine s = a:=by
 obtain ⟨a,b,h1,h2,_⟩:=find_some s h
 refine ⟨a,b,h1,h2,?_⟩
 rw [h1,firstLine_none h2]
 have e:firstLine (10 :: b) = []:=by
  unfold firstLine
  rw [linesOf]
  simp
 rw [e,List.append_nil]
end Go.AM
namespace Go.AM
open Go.Proofs
set_option maxRecDepth 100000
def sharedT:T Bool:=(.n (.n (.n (.n (.n (.n .e true (.n .e true .e)) false .e) false (.n (.n (.n .e true .e) false .e) false (.n .e true .e))) false (.n (.n (.n .e false (.n .e true .e)) false .e) false .e)) false (.n (.n (.n .e false (.n .e true .e)) false (.n .e false (.n .e true .e))) false (.n (.n (.n (.n .e true .e) true .e) false .e) false (.n .e false (.n (.n .e true .e) true .e))))) false (.n (.n (.n (.n (.n .e true (.n .e true .e)) false .e) false (.n .e false (.n .e true .e))) false (.n (.n (.n (.n .e true .e) false .e) false .e) false (.n (.n (.n .e true .e) false .e) false (.n (.n .e true .e) false .e)))) false (.n (.n (.n .e false (.n .e true .e)) false (.n (.n (.n .e true .e) false .e) false (.n .e true .e))) false (.n (.n .e false (.n .e true .e)) false (.n .e true (.n (.n .e true .e) true .e))))))
def pubRetT:T Bool:=.e
def globV (_:Nat):Option V:=none
noncomputable def E0:Env:={ shared:=T.get false sharedT,pubRet:=T.get false pubRetT,prim:=fun _ _ => none,glob:=globV }
def known0:List (FuncId × V):=[(8,.bool true)]
noncomputable def EU:Env:={ E0 with prim:=memoP [] known0,lit:=fun _ => true,borrow:=fun f => Nat.beq f 36,data:=fun f => Nat.beq f 34 || Nat.beq f 9 || Nat.beq f 24 || Nat.beq f 45 || Nat.beq f 46 || Nat.beq f 22 || Nat.beq f 23 }
theorem names:NameOk Tryd.prog:=nameOk_of (by kernel_rfl)
theorem snd0:Snd Tryd.prog E0 (run Tryd.prog E0 1000000):=run_snd names (primNone_ok rfl) _
theorem known0_ok:ck0 Tryd.prog E0 1000000 known0 = true:=by kernel_rfl
theorem primU:PrimOk Tryd.prog EU:=memoP_ok (TT:=[]) (T0:=known0) rfl (fun p hp => by cases hp) (ck0_pure snd0 known0_ok)
theorem globU {W:World}:GlobOk EU.glob (allOf W):=fun g x h => by cases h
end Go.AM
