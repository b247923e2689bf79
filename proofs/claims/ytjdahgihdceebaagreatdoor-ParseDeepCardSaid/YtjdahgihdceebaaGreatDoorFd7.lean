/-
  WHAT FUNCTIONS OF THE PROGRAM COME TO, told by the machine, and plain laws of it. No condition but what each theorem says of its arguments.
-/
import Derived.Test.YtjdahgihdceebaaGreatDoorFd6
namespace Go.AM
open Go.Proofs
set_option maxRecDepth 100000
set_option maxHeartbeats 4000000
structure LeF (F G:PsF):Prop where
 tok:∀ (es:List V) (p:Int),le1 (F.tok es p) (G.tok es p)
 is:∀ (es:List V) (s:List UInt8) (p:Int),le1 (F.is es s p) (G.is es s p)
 has:∀ (es:List V) (s:List UInt8) (p:Int),le1 (F.has es s p) (G.has es s p)
 need:∀ (es:List V) (s:List UInt8) (p:Int),le1 (F.need es s p) (G.need es s p)
 take:∀ (es:List V) (c:Int) (p:Int),le1 (F.take es c p) (G.take es c p)
 name:∀ (es:List V) (p:Int),le1 (F.name es p) (G.name es p)
 key:∀ (es:List V) (p:Int),le1 (F.key es p) (G.key es p)
 exp:∀ (es:List V) (l:Int) (p:Int),le1 (F.exp es l p) (G.exp es l p)
 within:∀ (es:List V) (n:Nd) (d:List UInt8) (p:Int),le1 (F.within es n d p) (G.within es n d p)
 N:∀ (j:Nat) (es:List V) (p:Int),le1 (F.N j es p) (G.N j es p)
 dfn:∀ (es:List V) (q:Bool) (p:Int),le1 (F.dfn es q p) (G.dfn es q p)
 rest:∀ (es:List V) (q:Bool) (p:Int),le1 (F.rest es q p) (G.rest es q p)
 rows:∀ (j:Nat) (es:List V) (a:List UInt8) (b:List UInt8) (p:Int),le1 (F.rows j es a b p) (G.rows j es a b p)
 rowsL:∀ (j:Nat) (es:List V) (a:List UInt8) (b:List UInt8) (ver:Nat) (len:Nat) (acc:List V) (p:Int),le1 (F.rowsL j es a b ver len acc p) (G.rowsL j es a b ver len acc p)
 expL:∀ (es:List V) (l:Int) (c:Int) (n:Nd) (p:Int),le1 (F.expL es l c n p) (G.expL es l c n p)
 postL:∀ (es:List V) (n:Nd) (p:Int),le1 (F.postL es n p) (G.postL es n p)
 textL:∀ (es:List V) (t:List UInt8) (ver:Nat) (len:Nat) (acc:List V) (p:Int),le1 (F.textL es t ver len acc p) (G.textL es t ver len acc p)
 plainL:∀ (es:List V) (ver:Nat) (len:Nat) (acc:List V) (p:Int),le1 (F.plainL es ver len acc p) (G.plainL es ver len acc p)
 ifsL:∀ (es:List V) (q:Bool) (ver:Nat) (len:Nat) (acc:List V) (p:Int),le1 (F.ifsL es q ver len acc p) (G.ifsL es q ver len acc p)
 progL:∀ (es:List V) (ver:Nat) (len:Nat) (acc:List V) (p:Int),le1 (F.progL es ver len acc p) (G.progL es ver len acc p)
 level:∀ (w:List UInt8),le1 (F.level w) (G.level w)
 right:∀ (w:List UInt8),le1 (F.right w) (G.right w)
 side:∀ (w:List UInt8),le1 (F.side w) (G.side w)
 of:∀ (kk:Int) (w:List UInt8),le1 (F.of kk w) (G.of kk w)
 change:∀ (kk:Int) (w:List UInt8),le1 (F.change kk w) (G.change kk w)
 word:∀ (w:List UInt8),le1 (F.word w) (G.word w)
 plain:∀ (w:List UInt8),le1 (F.plain w) (G.plain w)
 simple:∀ (w:List UInt8),le1 (F.simple w) (G.simple w)
 runW:∀ (w:List UInt8),le1 (F.runW w) (G.runW w)
 runL:∀ (w:List UInt8) (i:Int),le1 (F.runL w i) (G.runL w i)
 part:∀ (c:Int),le1 (F.part c) (G.part c)
 letter:∀ (c:Int),le1 (F.letter c) (G.letter c)
 digit:∀ (c:Int),le1 (F.digit c) (G.digit c)
 deep:∀ (es:List V),le1 (F.deep es) (G.deep es)
 deepL:∀ (es:List V) (m:Int) (i:Int),le1 (F.deepL es m i) (G.deepL es m i)
noncomputable def botF:PsF where
 tok:=fun _ _=>.no
 is:=fun _ _ _=>.no
 has:=fun _ _ _=>.no
 need:=fun _ _ _=>.no
 take:=fun _ _ _=>.no
 name:=fun _ _=>.no
 key:=fun _ _=>.no
 exp:=fun _ _ _=>.no
 within:=fun _ _ _ _=>.no
 N:=fun _ _ _=>.no
 dfn:=fun _ _ _=>.no
 rest:=fun _ _ _=>.no
 rows:=fun _ _ _ _ _=>.no
 rowsL:=fun _ _ _ _ _ _ _ _=>.no
 expL:=fun _ _ _ _ _=>.no
 postL:=fun _ _ _=>.no
 textL:=fun _ _ _ _ _ _=>.no
 plainL:=fun _ _ _ _ _=>.no
 ifsL:=fun _ _ _ _ _ _=>.no
 progL:=fun _ _ _ _ _=>.no
 level:=fun _=>.no
 right:=fun _=>.no
 side:=fun _=>.no
 of:=fun _ _=>.no
 change:=fun _ _=>.no
 word:=fun _=>.no
 plain:=fun _=>.no
 simple:=fun _=>.no
 runW:=fun _=>.no
 runL:=fun _ _=>.no
 part:=fun _=>.no
 letter:=fun _=>.no
 digit:=fun _=>.no
 deep:=fun _=>.no
 deepL:=fun _ _ _=>.no
noncomputable def stepF (F:PsF):PsF where
 tok:=fun es p=>QH0 .no .ok .er F es p
 is:=fun es s p=>Qb0 .no .ok .er F es s p
 has:=fun es s p=>jX0 .no .ok .er F es s p
 need:=fun es s p=>Qg0 .no .ok .er F es s p
 take:=fun es c p=>QE0 .no .ok .er F es c p
 name:=fun es p=>Qf0 .no .ok .er F es p
 key:=fun es p=>Qc0 .no .ok .er F es p
 exp:=fun es l p=>jV0 .no .ok .er F es l p
 within:=fun es n d p=>QK0 .no .ok .er F es n d p
 N:=fun j es p=>bif Nat.beq j 116 then Qj0 .no .ok .er F es p else bif Nat.beq j 113 then Qs0 .no .ok .er F es p else bif Nat.beq j 154 then QF0 .no .ok .er F es p else bif Nat.beq j 74 then yO0 .no .ok .er F es p else bif Nat.beq j 26 then Qv0 .no .ok .er F es p else bif Nat.beq j 79 then Qp0 .no .ok .er F es p else bif Nat.beq j 52 then jO0 .no .ok .er F es p else bif Nat.beq j 42 then QA0 .no .ok .er F es p else bif Nat.beq j 43 then jN0 .no .ok .er F es p else bif Nat.beq j 44 then Qm0 .no .ok .er F es p else bif Nat.beq j 45 then Qh0 .no .ok .er F es p else bif Nat.beq j 46 then jY0 .no .ok .er F es p else bif Nat.beq j 47 then Qw0 .no .ok .er F es p else bif Nat.beq j 48 then jU0 .no .ok .er F es p else bif Nat.beq j 181 then jP0 .no .ok .er F es p else bif Nat.beq j 77 then Qk0 .no .ok .er F es p else bif Nat.beq j 112 then QJ0 .no .ok .er F es p else bif Nat.beq j 153 then QI0 .no .ok .er F es p else bif Nat.beq j 156 then Qd0 .no .ok .er F es p else bif Nat.beq j 114 then Qo0 .no .ok .er F es p else bif Nat.beq j 81 then Ql0 .no .ok .er F es p else bif Nat.beq j 55 then ZZ0 .no .ok .er F es p else .no
 dfn:=fun es q p=>bif q then jT0 .no .ok .er F es p else jS0 .no .ok .er F es p
 rest:=fun es q p=>bif q then Qy0 .no .ok .er F es p else Qx0 .no .ok .er F es p
 rows:=fun j es a b p=>bif Nat.beq j 81 then qS0 .no .ok .er F es 81 a b p else bif Nat.beq j 77 then qS0 .no .ok .er F es 77 a b p else bif Nat.beq j 55 then qS0 .no .ok .er F es 55 a b p else bif Nat.beq j 156 then qS0 .no .ok .er F es 156 a b p else bif Nat.beq j 114 then qS0 .no .ok .er F es 114 a b p else .no
 rowsL:=fun j es a b ver len acc p=>bif Nat.beq j 81 then qA0 .no .ok .er F es 81 a b ver len acc p else bif Nat.beq j 77 then qA0 .no .ok .er F es 77 a b ver len acc p else bif Nat.beq j 55 then qA0 .no .ok .er F es 55 a b ver len acc p else bif Nat.beq j 156 then qA0 .no .ok .er F es 156 a b ver len acc p else bif Nat.beq j 114 then qA0 .no .ok .er F es 114 a b ver len acc p else .no
 expL:=fun es l c n p=>jW0 .no .ok .er F es l c n p
 postL:=fun es n p=>Qt0 .no .ok .er F es n p
 textL:=fun es t ver len acc p=>QG0 .no .ok .er F es t ver len acc p
 plainL:=fun es ver len acc p=>Qq0 .no .ok .er F es ver len acc p
 ifsL:=fun es q ver len acc p=>bif q then Qa0 .no .ok .er F es ver len acc p else jZ0 .no .ok .er F es ver len acc p
 progL:=fun es ver len acc p=>Qu0 .no .ok .er F es ver len acc p
 level:=fun w=>Qe0 .no .ok .er F w
 right:=fun w=>Qz0 .no .ok .er F w
 side:=fun w=>QC0 .no .ok .er F w
 of:=fun kk w=>Qi0 .no .ok .er F kk w
 change:=fun kk w=>jQ0 .no .ok .er F kk w
 word:=fun w=>QL0 .no .ok .er F w
 plain:=fun w=>Qr0 .no .ok .er F w
 simple:=fun w=>QD0 .no .ok .er F w
 runW:=fun w=>QB0 .no .ok .er F w
 runL:=fun w i=>yN0 .no .ok .er F w i
 part:=fun c=>Qn0 .no .ok .er F c
 letter:=fun c=>Zo0 zt0 c
 digit:=fun c=>Zo0 yB0 c
 deep:=fun es=>jR0 .no .ok .er F es
 deepL:=fun es m i=>yM0 .no .ok .er F es m i
noncomputable def MF:Nat→PsF:=Nat.rec botF (fun _ F=>stepF F)
theorem qJ0 {α ε:Type} {b:Bool} {x y z:PR α ε} (h1:b=true→le1 x z) (h2:le1 y z):le1 (bif b then x else y) z:=by
 cases b with
 | true=>exact h1 rfl
 | false=>exact h2
section
variable {nn:Nat} (hM:LeF (MF nn) (FX (XF nn)))
 include hM
theorem s_tok (es:List V)  (p:Int):le1 (QH0 .no .ok .er (MF nn) es  p) (exR (rT (hpP es p)) (qP (hpP es p)) (rn PP EP CP (nn+1) (.call 73 [.ptr 0 0 0] (hpP es p)))):=by
 have _:=hM
 have he:=e_tok (XF nn) (rn PP EP CP nn) (PR.no:PR (Int×List UInt8) Int) (exR (rT (hpP es p)) (qP (hpP es p))) es p
 have h1:le1 (QH0 .no .ok .er (MF nn) es  p) (QH0 .no .ok .er (FX (XF nn)) es  p):=by
  unfold QH0
  (repeat' first | with_reducible exact qg0)
 refine qj0 (LT) LQ qo0 (fun ok er=>QH0 .no ok er (FX (XF nn)) es  p) h1 he ?_ ?_ ?_ ?_
 all_goals (intro _;kernel_rfl)
theorem s_is (es:List V) (s:List UInt8) (p:Int):le1 (Qb0 .no .ok .er (MF nn) es s p) (exR (rB (hpP es p)) (qP (hpP es p)) (rn PP EP CP (nn+1) (.call 51 [.ptr 0 0 0,.str s] (hpP es p)))):=by
 have he:=e_is (XF nn) (rn PP EP CP nn) (PR.no:PR (Bool×Int) Int) (exR (rB (hpP es p)) (qP (hpP es p))) es p s
 have h1:le1 (Qb0 .no .ok .er (MF nn) es s p) (Qb0 .no .ok .er (FX (XF nn)) es s p):=by
  unfold Qb0
  (repeat' first | with_reducible exact qg0 | (with_reducible refine qk0 (by with_reducible exact (LeF.tok hM _ _)) (fun _=>?_) (fun _=>?_)))
 refine qj0 (LB) LQ qo0 (fun ok er=>Qb0 .no ok er (FX (XF nn)) es s p) h1 he ?_ ?_ ?_ ?_
 all_goals (intro _;kernel_rfl)
theorem s_has (es:List V) (s:List UInt8) (p:Int):le1 (jX0 .no .ok .er (MF nn) es s p) (exR (rB (hpP es p)) (qP (hpP es p)) (rn PP EP CP (nn+1) (.call 53 [.ptr 0 0 0,.str s] (hpP es p)))):=by
 have he:=e_has (XF nn) (rn PP EP CP nn) (PR.no:PR (Bool×Int) Int) (exR (rB (hpP es p)) (qP (hpP es p))) es p s
 have h1:le1 (jX0 .no .ok .er (MF nn) es s p) (jX0 .no .ok .er (FX (XF nn)) es s p):=by
  unfold jX0
  (repeat' first | with_reducible exact qg0 | (with_reducible refine qk0 (by with_reducible exact (LeF.is hM _ _ _)) (fun _=>?_) (fun _=>?_)))
 refine qj0 (LB) LQ qo0 (fun ok er=>jX0 .no ok er (FX (XF nn)) es s p) h1 he ?_ ?_ ?_ ?_
 all_goals (intro _;kernel_rfl)
theorem s_need (es:List V) (s:List UInt8) (p:Int):le1 (Qg0 .no .ok .er (MF nn) es s p) (exR (rU (hpP es p)) (qP (hpP es p)) (rn PP EP CP (nn+1) (.call 75 [.ptr 0 0 0,.str s] (hpP es p)))):=by
 have he:=e_need (XF nn) (rn PP EP CP nn) (PR.no:PR Int Int) (exR (rU (hpP es p)) (qP (hpP es p))) es p s
 have h1:le1 (Qg0 .no .ok .er (MF nn) es s p) (Qg0 .no .ok .er (FX (XF nn)) es s p):=by
  unfold Qg0
  (repeat' first | with_reducible exact qg0 | (with_reducible refine qk0 (by with_reducible exact (LeF.has hM _ _ _)) (fun _=>?_) (fun _=>?_)))
 refine qj0 (LU) LQ qo0 (fun ok er=>Qg0 .no ok er (FX (XF nn)) es s p) h1 he ?_ ?_ ?_ ?_
 all_goals (intro _;kernel_rfl)
theorem s_take (es:List V) (c:Int) (p:Int):le1 (QE0 .no .ok .er (MF nn) es c p) (exR (rS (hpP es p)) (qP (hpP es p)) (rn PP EP CP (nn+1) (.call 50 [.ptr 0 0 0,.int .i64 c] (hpP es p)))):=by
 have he:=e_take (XF nn) (rn PP EP CP nn) (PR.no:PR (List UInt8×Int) Int) (exR (rS (hpP es p)) (qP (hpP es p))) es p c
 have h1:le1 (QE0 .no .ok .er (MF nn) es c p) (QE0 .no .ok .er (FX (XF nn)) es c p):=by
  unfold QE0
  (repeat' first | with_reducible exact qg0 | (with_reducible refine qk0 (by with_reducible exact (LeF.tok hM _ _)) (fun _=>?_) (fun _=>?_)))
 refine qj0 (LS) LQ qo0 (fun ok er=>QE0 .no ok er (FX (XF nn)) es c p) h1 he ?_ ?_ ?_ ?_
 all_goals (intro _;kernel_rfl)
theorem s_name (es:List V)  (p:Int):le1 (Qf0 .no .ok .er (MF nn) es  p) (exR (rS (hpP es p)) (qP (hpP es p)) (rn PP EP CP (nn+1) (.call 80 [.ptr 0 0 0] (hpP es p)))):=by
 have he:=e_name (XF nn) (rn PP EP CP nn) (PR.no:PR (List UInt8×Int) Int) (exR (rS (hpP es p)) (qP (hpP es p))) es p
 have h1:le1 (Qf0 .no .ok .er (MF nn) es  p) (Qf0 .no .ok .er (FX (XF nn)) es  p):=by
  unfold Qf0
  (repeat' first | with_reducible exact qg0 | with_reducible apply qr0 | (with_reducible refine qk0 (by with_reducible first | exact (LeF.tok hM _ _) | exact (LeF.take hM _ _ _) | exact (LeF.plain hM _)) (fun _=>?_) (fun _=>?_)))
 refine qj0 (LS) LQ qo0 (fun ok er=>Qf0 .no ok er (FX (XF nn)) es  p) h1 he ?_ ?_ ?_ ?_
 all_goals (intro _;kernel_rfl)
theorem s_key (es:List V)  (p:Int):le1 (Qc0 .no .ok .er (MF nn) es  p) (exR (rK (hpP es p)) (qP (hpP es p)) (rn PP EP CP (nn+1) (.call 111 [.ptr 0 0 0] (hpP es p)))):=by
 have he:=e_key (XF nn) (rn PP EP CP nn) (PR.no:PR ((Nd×Bool)×Int) Int) (exR (rK (hpP es p)) (qP (hpP es p))) es p
 have h1:le1 (Qc0 .no .ok .er (MF nn) es  p) (Qc0 .no .ok .er (FX (XF nn)) es  p):=by
  unfold Qc0
  (repeat' first | with_reducible exact qg0 | with_reducible apply qr0 | (with_reducible refine qk0 (by with_reducible first | exact (LeF.tok hM _ _) | exact (LeF.need hM _ _ _) | exact (LeF.take hM _ _ _) | exact (LeF.N hM _ _ _)) (fun _=>?_) (fun _=>?_)))
 refine qj0 (LK) LQ qo0 (fun ok er=>Qc0 .no ok er (FX (XF nn)) es  p) h1 he ?_ ?_ ?_ ?_
 all_goals (intro _;kernel_rfl)
theorem jn2 (es:List V)  (p:Int):le1 (Qj0 .no .ok .er (MF nn) es  p) (exR (rN (hpP es p)) (qP (hpP es p)) (rn PP EP CP (nn+1) (.call 116 [.ptr 0 0 0] (hpP es p)))):=by
 have he:=XL1 (XF nn) (rn PP EP CP nn) (PR.no:PR (Nd×Int) Int) (exR (rN (hpP es p)) (qP (hpP es p))) es p
 have h1:le1 (Qj0 .no .ok .er (MF nn) es  p) (Qj0 .no .ok .er (FX (XF nn)) es  p):=by
  unfold Qj0
  (repeat' first | with_reducible exact qg0 | with_reducible apply qr0 | with_reducible apply qM0 | (with_reducible refine qk0 (by with_reducible first | exact (LeF.has hM _ _ _) | exact (LeF.need hM _ _ _) | exact (LeF.take hM _ _ _) | exact (LeF.exp hM _ _ _) | exact (LeF.N hM _ _ _) | exact (LeF.dfn hM _ _ _) | exact (LeF.level hM _)) (fun _=>?_) (fun _=>?_)))
 refine qj0 (LN) LQ qo0 (fun ok er=>Qj0 .no ok er (FX (XF nn)) es  p) h1 he ?_ ?_ ?_ ?_
 all_goals (intro _;kernel_rfl)
theorem s_post (es:List V)  (p:Int):le1 (Qs0 .no .ok .er (MF nn) es  p) (exR (rN (hpP es p)) (qP (hpP es p)) (rn PP EP CP (nn+1) (.call 113 [.ptr 0 0 0] (hpP es p)))):=by
 have he:=e_post (XF nn) (rn PP EP CP nn) (PR.no:PR (Nd×Int) Int) (exR (rN (hpP es p)) (qP (hpP es p))) es p
 have h1:le1 (Qs0 .no .ok .er (MF nn) es  p) (Qs0 .no .ok .er (FX (XF nn)) es  p):=by
  unfold Qs0
  (repeat' first | with_reducible exact qg0 | (with_reducible refine qk0 (by with_reducible first | exact (LeF.N hM _ _ _) | exact (LeF.postL hM _ _ _)) (fun _=>?_) (fun _=>?_)))
 refine qj0 (LN) LQ qo0 (fun ok er=>Qs0 .no ok er (FX (XF nn)) es  p) h1 he ?_ ?_ ?_ ?_
 all_goals (intro _;kernel_rfl)
theorem s_term (es:List V)  (p:Int):le1 (QF0 .no .ok .er (MF nn) es  p) (exR (rN (hpP es p)) (qP (hpP es p)) (rn PP EP CP (nn+1) (.call 154 [.ptr 0 0 0] (hpP es p)))):=by
 have he:=e_term (XF nn) (rn PP EP CP nn) (PR.no:PR (Nd×Int) Int) (exR (rN (hpP es p)) (qP (hpP es p))) es p
 have h1:le1 (QF0 .no .ok .er (MF nn) es  p) (QF0 .no .ok .er (FX (XF nn)) es  p):=by
  unfold QF0
  (repeat' first | with_reducible exact qg0 | with_reducible apply qr0 | with_reducible apply qM0 | (with_reducible refine qk0 (by with_reducible first | exact (LeF.tok hM _ _) | exact (LeF.take hM _ _ _) | exact (LeF.N hM _ _ _) | exact (LeF.word hM _)) (fun _=>?_) (fun _=>?_)))
 refine qj0 (LN) LQ qo0 (fun ok er=>QF0 .no ok er (FX (XF nn)) es  p) h1 he ?_ ?_ ?_ ?_
 all_goals (intro _;kernel_rfl)
theorem s_text (es:List V)  (p:Int):le1 (yO0 .no .ok .er (MF nn) es  p) (exR (rN (hpP es p)) (qP (hpP es p)) (rn PP EP CP (nn+1) (.call 74 [.ptr 0 0 0] (hpP es p)))):=by
 have he:=e_text (XF nn) (rn PP EP CP nn) (PR.no:PR (Nd×Int) Int) (exR (rN (hpP es p)) (qP (hpP es p))) es p
 have h1:le1 (yO0 .no .ok .er (MF nn) es  p) (yO0 .no .ok .er (FX (XF nn)) es  p):=by
  unfold yO0
  (repeat' first | with_reducible exact qg0 | with_reducible apply qr0 | with_reducible apply qM0 | (with_reducible refine qk0 (by with_reducible first | exact (LeF.tok hM _ _) | exact (LeF.take hM _ _ _) | exact (LeF.N hM _ _ _) | exact (LeF.textL hM _ _ _ _ _ _)) (fun _=>?_) (fun _=>?_)))
 refine qj0 (LN) LQ qo0 (fun ok er=>yO0 .no ok er (FX (XF nn)) es  p) h1 he ?_ ?_ ?_ ?_
 all_goals (intro _;kernel_rfl)
theorem jw2 (es:List V)  (p:Int):le1 (Qv0 .no .ok .er (MF nn) es  p) (exR (rN (hpP es p)) (qP (hpP es p)) (rn PP EP CP (nn+1) (.call 26 [.ptr 0 0 0] (hpP es p)))):=by
 have he:=XU1 (XF nn) (rn PP EP CP nn) (PR.no:PR (Nd×Int) Int) (exR (rN (hpP es p)) (qP (hpP es p))) es p
 have h1:le1 (Qv0 .no .ok .er (MF nn) es  p) (Qv0 .no .ok .er (FX (XF nn)) es  p):=by
  unfold Qv0
  (repeat' first | with_reducible exact qg0 | with_reducible apply qr0 | with_reducible apply qM0 | (with_reducible refine qk0 (by with_reducible first | exact (LeF.is hM _ _ _) | exact (LeF.has hM _ _ _) | exact (LeF.N hM _ _ _) | exact (LeF.dfn hM _ _ _) | exact (LeF.progL hM _ _ _ _ _)) (fun _=>?_) (fun _=>?_)))
 refine qj0 (LN) LQ qo0 (fun ok er=>Qv0 .no ok er (FX (XF nn)) es  p) h1 he ?_ ?_ ?_ ?_
 all_goals (intro _;kernel_rfl)
theorem jr2 (es:List V)  (p:Int):le1 (Qp0 .no .ok .er (MF nn) es  p) (exR (rN (hpP es p)) (qP (hpP es p)) (rn PP EP CP (nn+1) (.call 79 [.ptr 0 0 0] (hpP es p)))):=by
 have he:=XP1 (XF nn) (rn PP EP CP nn) (PR.no:PR (Nd×Int) Int) (exR (rN (hpP es p)) (qP (hpP es p))) es p
 have h1:le1 (Qp0 .no .ok .er (MF nn) es  p) (Qp0 .no .ok .er (FX (XF nn)) es  p):=by
  unfold Qp0
  (repeat' first | with_reducible exact qg0 | with_reducible apply qr0 | with_reducible apply qM0 | (with_reducible refine qk0 (by with_reducible first | exact (LeF.tok hM _ _) | exact (LeF.take hM _ _ _) | exact (LeF.plainL hM _ _ _ _ _)) (fun _=>?_) (fun _=>?_)))
 refine qj0 (LN) LQ qo0 (fun ok er=>Qp0 .no ok er (FX (XF nn)) es  p) h1 he ?_ ?_ ?_ ?_
 all_goals (intro _;kernel_rfl)
theorem je2 (es:List V)  (p:Int):le1 (jO0 .no .ok .er (MF nn) es  p) (exR (rN (hpP es p)) (qP (hpP es p)) (rn PP EP CP (nn+1) (.call 52 [.ptr 0 0 0] (hpP es p)))):=by
 have he:=XD1 (XF nn) (rn PP EP CP nn) (PR.no:PR (Nd×Int) Int) (exR (rN (hpP es p)) (qP (hpP es p))) es p
 have h1:le1 (jO0 .no .ok .er (MF nn) es  p) (jO0 .no .ok .er (FX (XF nn)) es  p):=by
  unfold jO0
  (repeat' first | with_reducible exact qg0 | with_reducible apply qr0 | with_reducible apply qM0 | (with_reducible refine qk0 (by with_reducible first | exact (LeF.tok hM _ _) | exact (LeF.need hM _ _ _) | exact (LeF.take hM _ _ _) | exact (LeF.name hM _ _) | exact (LeF.N hM _ _ _)) (fun _=>?_) (fun _=>?_)))
 refine qj0 (LN) LQ qo0 (fun ok er=>jO0 .no ok er (FX (XF nn)) es  p) h1 he ?_ ?_ ?_ ?_
 all_goals (intro _;kernel_rfl)
theorem s_root (es:List V)  (p:Int):le1 (QA0 .no .ok .er (MF nn) es  p) (exR (rN (hpP es p)) (qP (hpP es p)) (rn PP EP CP (nn+1) (.call 42 [.ptr 0 0 0] (hpP es p)))):=by
 have he:=e_root (XF nn) (rn PP EP CP nn) (PR.no:PR (Nd×Int) Int) (exR (rN (hpP es p)) (qP (hpP es p))) es p
 have h1:le1 (QA0 .no .ok .er (MF nn) es  p) (QA0 .no .ok .er (FX (XF nn)) es  p):=by
  unfold QA0
  (repeat' first | with_reducible exact qg0 | with_reducible apply qr0 | (with_reducible refine qk0 (by with_reducible first | exact (LeF.tok hM _ _) | exact (LeF.N hM _ _ _)) (fun _=>?_) (fun _=>?_)))
 refine qj0 (LN) LQ qo0 (fun ok er=>QA0 .no ok er (FX (XF nn)) es  p) h1 he ?_ ?_ ?_ ?_
 all_goals (intro _;kernel_rfl)
theorem jd2 (es:List V)  (p:Int):le1 (jN0 .no .ok .er (MF nn) es  p) (exR (rN (hpP es p)) (qP (hpP es p)) (rn PP EP CP (nn+1) (.call 43 [.ptr 0 0 0] (hpP es p)))):=by
 have he:=XC1 (XF nn) (rn PP EP CP nn) (PR.no:PR (Nd×Int) Int) (exR (rN (hpP es p)) (qP (hpP es p))) es p
 have h1:le1 (jN0 .no .ok .er (MF nn) es  p) (jN0 .no .ok .er (FX (XF nn)) es  p):=by
  unfold jN0
  (repeat' first | with_reducible exact qg0 | with_reducible apply qr0 | (with_reducible refine qk0 (by with_reducible first | exact (LeF.has hM _ _ _) | exact (LeF.need hM _ _ _) | exact (LeF.N hM _ _ _)) (fun _=>?_) (fun _=>?_)))
 refine qj0 (LN) LQ qo0 (fun ok er=>jN0 .no ok er (FX (XF nn)) es  p) h1 he ?_ ?_ ?_ ?_
 all_goals (intro _;kernel_rfl)
theorem jp2 (es:List V)  (p:Int):le1 (Qm0 .no .ok .er (MF nn) es  p) (exR (rN (hpP es p)) (qP (hpP es p)) (rn PP EP CP (nn+1) (.call 44 [.ptr 0 0 0] (hpP es p)))):=by
 have he:=XN1 (XF nn) (rn PP EP CP nn) (PR.no:PR (Nd×Int) Int) (exR (rN (hpP es p)) (qP (hpP es p))) es p
 have h1:le1 (Qm0 .no .ok .er (MF nn) es  p) (Qm0 .no .ok .er (FX (XF nn)) es  p):=by
  unfold Qm0
  (repeat' first | with_reducible exact qg0 | (with_reducible refine qk0 (by with_reducible first | exact (LeF.need hM _ _ _) | exact (LeF.N hM _ _ _)) (fun _=>?_) (fun _=>?_)))
 refine qj0 (LN) LQ qo0 (fun ok er=>Qm0 .no ok er (FX (XF nn)) es  p) h1 he ?_ ?_ ?_ ?_
 all_goals (intro _;kernel_rfl)
theorem jm2 (es:List V)  (p:Int):le1 (Qh0 .no .ok .er (MF nn) es  p) (exR (rN (hpP es p)) (qP (hpP es p)) (rn PP EP CP (nn+1) (.call 45 [.ptr 0 0 0] (hpP es p)))):=by
 have he:=XK1 (XF nn) (rn PP EP CP nn) (PR.no:PR (Nd×Int) Int) (exR (rN (hpP es p)) (qP (hpP es p))) es p
 have h1:le1 (Qh0 .no .ok .er (MF nn) es  p) (Qh0 .no .ok .er (FX (XF nn)) es  p):=by
  unfold Qh0
  (repeat' first | with_reducible exact qg0 | with_reducible apply qr0 | (with_reducible refine qk0 (by with_reducible first | exact (LeF.has hM _ _ _) | exact (LeF.rows hM _ _ _ _ _)) (fun _=>?_) (fun _=>?_)))
 refine qj0 (LN) LQ qo0 (fun ok er=>Qh0 .no ok er (FX (XF nn)) es  p) h1 he ?_ ?_ ?_ ?_
 all_goals (intro _;kernel_rfl)
theorem s_ifs (es:List V)  (p:Int):le1 (jY0 .no .ok .er (MF nn) es  p) (exR (rN (hpP es p)) (qP (hpP es p)) (rn PP EP CP (nn+1) (.call 46 [.ptr 0 0 0] (hpP es p)))):=by
 have he:=e_ifs (XF nn) (rn PP EP CP nn) (PR.no:PR (Nd×Int) Int) (exR (rN (hpP es p)) (qP (hpP es p))) es p
 have h1:le1 (jY0 .no .ok .er (MF nn) es  p) (jY0 .no .ok .er (FX (XF nn)) es  p):=by
  unfold jY0
  (repeat' first | with_reducible exact qg0 | with_reducible apply qr0 | with_reducible apply qM0 | (with_reducible refine qk0 (by with_reducible first | exact (LeF.has hM _ _ _) | exact (LeF.need hM _ _ _) | exact (LeF.N hM _ _ _) | exact (LeF.ifsL hM _ _ _ _ _ _)) (fun _=>?_) (fun _=>?_)))
 refine qj0 (LN) LQ qo0 (fun ok er=>jY0 .no ok er (FX (XF nn)) es  p) h1 he ?_ ?_ ?_ ?_
 all_goals (intro _;kernel_rfl)
theorem jx2 (es:List V)  (p:Int):le1 (Qw0 .no .ok .er (MF nn) es  p) (exR (rN (hpP es p)) (qP (hpP es p)) (rn PP EP CP (nn+1) (.call 47 [.ptr 0 0 0] (hpP es p)))):=by
 have he:=XV1 (XF nn) (rn PP EP CP nn) (PR.no:PR (Nd×Int) Int) (exR (rN (hpP es p)) (qP (hpP es p))) es p
 have h1:le1 (Qw0 .no .ok .er (MF nn) es  p) (Qw0 .no .ok .er (FX (XF nn)) es  p):=by
  unfold Qw0
  (repeat' first | with_reducible exact qg0 | with_reducible apply qM0 | (with_reducible refine qk0 (by with_reducible first | exact (LeF.need hM _ _ _) | exact (LeF.N hM _ _ _)) (fun _=>?_) (fun _=>?_)))
 refine qj0 (LN) LQ qo0 (fun ok er=>Qw0 .no ok er (FX (XF nn)) es  p) h1 he ?_ ?_ ?_ ?_
 all_goals (intro _;kernel_rfl)
theorem s_each (es:List V)  (p:Int):le1 (jU0 .no .ok .er (MF nn) es  p) (exR (rN (hpP es p)) (qP (hpP es p)) (rn PP EP CP (nn+1) (.call 48 [.ptr 0 0 0] (hpP es p)))):=by
 have he:=e_each (XF nn) (rn PP EP CP nn) (PR.no:PR (Nd×Int) Int) (exR (rN (hpP es p)) (qP (hpP es p))) es p
 have h1:le1 (jU0 .no .ok .er (MF nn) es  p) (jU0 .no .ok .er (FX (XF nn)) es  p):=by
  unfold jU0
  (repeat' first | with_reducible exact qg0 | with_reducible apply qr0 | with_reducible apply qM0 | (with_reducible refine qk0 (by with_reducible first | exact (LeF.has hM _ _ _) | exact (LeF.need hM _ _ _) | exact (LeF.N hM _ _ _)) (fun _=>?_) (fun _=>?_)))
 refine qj0 (LN) LQ qo0 (fun ok er=>jU0 .no ok er (FX (XF nn)) es  p) h1 he ?_ ?_ ?_ ?_
 all_goals (intro _;kernel_rfl)
theorem s_call (es:List V)  (p:Int):le1 (jP0 .no .ok .er (MF nn) es  p) (exR (rN (hpP es p)) (qP (hpP es p)) (rn PP EP CP (nn+1) (.call 181 [.ptr 0 0 0] (hpP es p)))):=by
 have he:=e_call (XF nn) (rn PP EP CP nn) (PR.no:PR (Nd×Int) Int) (exR (rN (hpP es p)) (qP (hpP es p))) es p
 have h1:le1 (jP0 .no .ok .er (MF nn) es  p) (jP0 .no .ok .er (FX (XF nn)) es  p):=by
  unfold jP0
  (repeat' first | with_reducible exact qg0 | with_reducible apply qr0 | (with_reducible refine qk0 (by with_reducible first | exact (LeF.has hM _ _ _) | exact (LeF.take hM _ _ _) | exact (LeF.rows hM _ _ _ _ _)) (fun _=>?_) (fun _=>?_)))
 refine qj0 (LN) LQ qo0 (fun ok er=>jP0 .no ok er (FX (XF nn)) es  p) h1 he ?_ ?_ ?_ ?_
 all_goals (intro _;kernel_rfl)
theorem s_pair (es:List V)  (p:Int):le1 (Qk0 .no .ok .er (MF nn) es  p) (exR (rN (hpP es p)) (qP (hpP es p)) (rn PP EP CP (nn+1) (.call 77 [.ptr 0 0 0] (hpP es p)))):=by
 have he:=e_pair (XF nn) (rn PP EP CP nn) (PR.no:PR (Nd×Int) Int) (exR (rN (hpP es p)) (qP (hpP es p))) es p
 have h1:le1 (Qk0 .no .ok .er (MF nn) es  p) (Qk0 .no .ok .er (FX (XF nn)) es  p):=by
  unfold Qk0
  (repeat' first | with_reducible exact qg0 | with_reducible apply qr0 | (with_reducible refine qk0 (by with_reducible first | exact (LeF.is hM _ _ _) | exact (LeF.need hM _ _ _) | exact (LeF.key hM _ _) | exact (LeF.N hM _ _ _)) (fun _=>?_) (fun _=>?_)))
 refine qj0 (LN) LQ qo0 (fun ok er=>Qk0 .no ok er (FX (XF nn)) es  p) h1 he ?_ ?_ ?_ ?_
 all_goals (intro _;kernel_rfl)
theorem jN2 (es:List V)  (p:Int):le1 (QJ0 .no .ok .er (MF nn) es  p) (exR (rN (hpP es p)) (qP (hpP es p)) (rn PP EP CP (nn+1) (.call 112 [.ptr 0 0 0] (hpP es p)))):=by
 have he:=Kl1 (XF nn) (rn PP EP CP nn) (PR.no:PR (Nd×Int) Int) (exR (rN (hpP es p)) (qP (hpP es p))) es p
 have h1:le1 (QJ0 .no .ok .er (MF nn) es  p) (QJ0 .no .ok .er (FX (XF nn)) es  p):=by
  unfold QJ0
  (repeat' first | with_reducible exact qg0 | with_reducible apply qr0 | (with_reducible refine qk0 (by with_reducible first | exact (LeF.has hM _ _ _) | exact (LeF.N hM _ _ _)) (fun _=>?_) (fun _=>?_)))
 refine qj0 (LN) LQ qo0 (fun ok er=>QJ0 .no ok er (FX (XF nn)) es  p) h1 he ?_ ?_ ?_ ?_
 all_goals (intro _;kernel_rfl)
theorem s_unit (es:List V)  (p:Int):le1 (QI0 .no .ok .er (MF nn) es  p) (exR (rN (hpP es p)) (qP (hpP es p)) (rn PP EP CP (nn+1) (.call 153 [.ptr 0 0 0] (hpP es p)))):=by
 have he:=e_unit (XF nn) (rn PP EP CP nn) (PR.no:PR (Nd×Int) Int) (exR (rN (hpP es p)) (qP (hpP es p))) es p
 have h1:le1 (QI0 .no .ok .er (MF nn) es  p) (QI0 .no .ok .er (FX (XF nn)) es  p):=by
  unfold QI0
  (repeat' first | with_reducible exact qg0 | with_reducible apply qr0 | (with_reducible refine qk0 (by with_reducible first | exact (LeF.has hM _ _ _) | exact (LeF.N hM _ _ _)) (fun _=>?_) (fun _=>?_)))
 refine qj0 (LN) LQ qo0 (fun ok er=>QI0 .no ok er (FX (XF nn)) es  p) h1 he ?_ ?_ ?_ ?_
 all_goals (intro _;kernel_rfl)
theorem jj2 (es:List V)  (p:Int):le1 (Qd0 .no .ok .er (MF nn) es  p) (exR (rN (hpP es p)) (qP (hpP es p)) (rn PP EP CP (nn+1) (.call 156 [.ptr 0 0 0] (hpP es p)))):=by
 have he:=XI1 (XF nn) (rn PP EP CP nn) (PR.no:PR (Nd×Int) Int) (exR (rN (hpP es p)) (qP (hpP es p))) es p
 have h1:le1 (Qd0 .no .ok .er (MF nn) es  p) (Qd0 .no .ok .er (FX (XF nn)) es  p):=by
  unfold Qd0
  (repeat' first | with_reducible exact qg0 | with_reducible apply qr0 | (with_reducible refine qk0 (by with_reducible first | exact (LeF.is hM _ _ _) | exact (LeF.need hM _ _ _) | exact (LeF.key hM _ _) | exact (LeF.N hM _ _ _)) (fun _=>?_) (fun _=>?_)))
 refine qj0 (LN) LQ qo0 (fun ok er=>Qd0 .no ok er (FX (XF nn)) es  p) h1 he ?_ ?_ ?_ ?_
 all_goals (intro _;kernel_rfl)
theorem jq2 (es:List V)  (p:Int):le1 (Qo0 .no .ok .er (MF nn) es  p) (exR (rN (hpP es p)) (qP (hpP es p)) (rn PP EP CP (nn+1) (.call 114 [.ptr 0 0 0] (hpP es p)))):=by
 have he:=XO1 (XF nn) (rn PP EP CP nn) (PR.no:PR (Nd×Int) Int) (exR (rN (hpP es p)) (qP (hpP es p))) es p
 have h1:le1 (Qo0 .no .ok .er (MF nn) es  p) (Qo0 .no .ok .er (FX (XF nn)) es  p):=by
  unfold Qo0
  (repeat' first | with_reducible exact qg0 | with_reducible apply qr0 | (with_reducible refine qk0 (by with_reducible first | exact (LeF.tok hM _ _) | exact (LeF.has hM _ _ _) | exact (LeF.need hM _ _ _) | exact (LeF.take hM _ _ _) | exact (LeF.rows hM _ _ _ _ _)) (fun _=>?_) (fun _=>?_)))
 refine qj0 (LN) LQ qo0 (fun ok er=>Qo0 .no ok er (FX (XF nn)) es  p) h1 he ?_ ?_ ?_ ?_
 all_goals (intro _;kernel_rfl)
theorem jo2 (es:List V)  (p:Int):le1 (Ql0 .no .ok .er (MF nn) es  p) (exR (rN (hpP es p)) (qP (hpP es p)) (rn PP EP CP (nn+1) (.call 81 [.ptr 0 0 0] (hpP es p)))):=by
 have he:=XM1 (XF nn) (rn PP EP CP nn) (PR.no:PR (Nd×Int) Int) (exR (rN (hpP es p)) (qP (hpP es p))) es p
 have h1:le1 (Ql0 .no .ok .er (MF nn) es  p) (Ql0 .no .ok .er (FX (XF nn)) es  p):=by
  unfold Ql0
  (repeat' first | with_reducible exact qg0 | with_reducible apply qr0 | (with_reducible refine qk0 (by with_reducible first | exact (LeF.tok hM _ _) | exact (LeF.take hM _ _ _) | exact (LeF.name hM _ _)) (fun _=>?_) (fun _=>?_)))
 refine qj0 (LN) LQ qo0 (fun ok er=>Ql0 .no ok er (FX (XF nn)) es  p) h1 he ?_ ?_ ?_ ?_
 all_goals (intro _;kernel_rfl)
theorem s_pipe (es:List V)  (p:Int):le1 (ZZ0 .no .ok .er (MF nn) es  p) (exR (rN (hpP es p)) (qP (hpP es p)) (rn PP EP CP (nn+1) (.call 55 [.ptr 0 0 0] (hpP es p)))):=by
 have he:=e_pipe (XF nn) (rn PP EP CP nn) (PR.no:PR (Nd×Int) Int) (exR (rN (hpP es p)) (qP (hpP es p))) es p
 have h1:le1 (ZZ0 .no .ok .er (MF nn) es  p) (ZZ0 .no .ok .er (FX (XF nn)) es  p):=by
  unfold ZZ0
  (repeat' first | with_reducible exact qg0 | (with_reducible refine qk0 (by with_reducible exact (LeF.exp hM _ _ _)) (fun _=>?_) (fun _=>?_)))
 refine qj0 (LN) LQ qo0 (fun ok er=>ZZ0 .no ok er (FX (XF nn)) es  p) h1 he ?_ ?_ ?_ ?_
 all_goals (intro _;kernel_rfl)
theorem s_exp (es:List V) (l:Int) (p:Int):le1 (jV0 .no .ok .er (MF nn) es l p) (exR (rN (hpP es p)) (qP (hpP es p)) (rn PP EP CP (nn+1) (.call 83 [.ptr 0 0 0,.int .i64 l] (hpP es p)))):=by
 have he:=e_exp (XF nn) (rn PP EP CP nn) (PR.no:PR (Nd×Int) Int) (exR (rN (hpP es p)) (qP (hpP es p))) es p l
 have h1:le1 (jV0 .no .ok .er (MF nn) es l p) (jV0 .no .ok .er (FX (XF nn)) es l p):=by
  unfold jV0
  (repeat' first | with_reducible exact qg0 | (with_reducible refine qk0 (by with_reducible first | exact (LeF.N hM _ _ _) | exact (LeF.expL hM _ _ _ _ _)) (fun _=>?_) (fun _=>?_)))
 refine qj0 (LN) LQ qo0 (fun ok er=>jV0 .no ok er (FX (XF nn)) es l p) h1 he ?_ ?_ ?_ ?_
 all_goals (intro _;kernel_rfl)
theorem s_defT (es:List V)  (p:Int):le1 (jT0 .no .ok .er (MF nn) es  p) (exR (rN (hpP es p)) (qP (hpP es p)) (rn PP EP CP (nn+1) (.call 54 [.ptr 0 0 0,.bool true] (hpP es p)))):=by
 have he:=e_defT (XF nn) (rn PP EP CP nn) (PR.no:PR (Nd×Int) Int) (exR (rN (hpP es p)) (qP (hpP es p))) es p
 have h1:le1 (jT0 .no .ok .er (MF nn) es  p) (jT0 .no .ok .er (FX (XF nn)) es  p):=by
  unfold jT0
  (repeat' first | with_reducible exact qg0 | with_reducible apply qr0 | with_reducible apply qM0 | (with_reducible refine qk0 (by with_reducible first | exact (LeF.has hM _ _ _) | exact (LeF.need hM _ _ _) | exact (LeF.name hM _ _) | exact (LeF.N hM _ _ _) | exact (LeF.rest hM _ _ _) | exact (LeF.rows hM _ _ _ _ _)) (fun _=>?_) (fun _=>?_)))
 refine qj0 (LN) LQ qo0 (fun ok er=>jT0 .no ok er (FX (XF nn)) es  p) h1 he ?_ ?_ ?_ ?_
 all_goals (intro _;kernel_rfl)
theorem s_defF (es:List V)  (p:Int):le1 (jS0 .no .ok .er (MF nn) es  p) (exR (rN (hpP es p)) (qP (hpP es p)) (rn PP EP CP (nn+1) (.call 54 [.ptr 0 0 0,.bool false] (hpP es p)))):=by
 have he:=e_defF (XF nn) (rn PP EP CP nn) (PR.no:PR (Nd×Int) Int) (exR (rN (hpP es p)) (qP (hpP es p))) es p
 have h1:le1 (jS0 .no .ok .er (MF nn) es  p) (jS0 .no .ok .er (FX (XF nn)) es  p):=by
  unfold jS0
  (repeat' first | with_reducible exact qg0 | with_reducible apply qr0 | with_reducible apply qM0 | (with_reducible refine qk0 (by with_reducible first | exact (LeF.has hM _ _ _) | exact (LeF.need hM _ _ _) | exact (LeF.name hM _ _) | exact (LeF.N hM _ _ _) | exact (LeF.rest hM _ _ _) | exact (LeF.rows hM _ _ _ _ _)) (fun _=>?_) (fun _=>?_)))
 refine qj0 (LN) LQ qo0 (fun ok er=>jS0 .no ok er (FX (XF nn)) es  p) h1 he ?_ ?_ ?_ ?_
 all_goals (intro _;kernel_rfl)
theorem jz2 (es:List V)  (p:Int):le1 (Qy0 .no .ok .er (MF nn) es  p) (exR (rN (hpP es p)) (qP (hpP es p)) (rn PP EP CP (nn+1) (.call 82 [.ptr 0 0 0,.bool true] (hpP es p)))):=by
 have he:=XX1 (XF nn) (rn PP EP CP nn) (PR.no:PR (Nd×Int) Int) (exR (rN (hpP es p)) (qP (hpP es p))) es p
 have h1:le1 (Qy0 .no .ok .er (MF nn) es  p) (Qy0 .no .ok .er (FX (XF nn)) es  p):=by
  unfold Qy0
  (repeat' first | with_reducible exact qg0 | with_reducible apply qr0 | (with_reducible refine qk0 (by with_reducible first | exact (LeF.has hM _ _ _) | exact (LeF.N hM _ _ _) | exact (LeF.dfn hM _ _ _)) (fun _=>?_) (fun _=>?_)))
 refine qj0 (LN) LQ qo0 (fun ok er=>Qy0 .no ok er (FX (XF nn)) es  p) h1 he ?_ ?_ ?_ ?_
 all_goals (intro _;kernel_rfl)
theorem jy2 (es:List V)  (p:Int):le1 (Qx0 .no .ok .er (MF nn) es  p) (exR (rN (hpP es p)) (qP (hpP es p)) (rn PP EP CP (nn+1) (.call 82 [.ptr 0 0 0,.bool false] (hpP es p)))):=by
 have he:=XW1 (XF nn) (rn PP EP CP nn) (PR.no:PR (Nd×Int) Int) (exR (rN (hpP es p)) (qP (hpP es p))) es p
 have h1:le1 (Qx0 .no .ok .er (MF nn) es  p) (Qx0 .no .ok .er (FX (XF nn)) es  p):=by
  unfold Qx0
  (repeat' first | with_reducible exact qg0 | (with_reducible refine qk0 (by with_reducible exact (LeF.N hM _ _ _)) (fun _=>?_) (fun _=>?_)))
 refine qj0 (LN) LQ qo0 (fun ok er=>Qx0 .no ok er (FX (XF nn)) es  p) h1 he ?_ ?_ ?_ ?_
 all_goals (intro _;kernel_rfl)
theorem jO2 (es:List V) (n:Nd) (d:List UInt8) (p:Int):le1 (QK0 .no .ok .er (MF nn) es n d p) (exR (rN (hpP es p)) (qP (hpP es p)) (rn PP EP CP (nn+1) (.call 155 [.ptr 0 0 0,qa0 n,.str d] (hpP es p)))):=by
 have he:=Km1 (XF nn) (rn PP EP CP nn) (PR.no:PR (Nd×Int) Int) (exR (rN (hpP es p)) (qP (hpP es p))) es p n d
 have h1:le1 (QK0 .no .ok .er (MF nn) es n d p) (QK0 .no .ok .er (FX (XF nn)) es n d p):=by
  unfold QK0
  (repeat' first | with_reducible exact qg0 | with_reducible apply qr0 | with_reducible apply qM0 | (with_reducible refine qk0 (by with_reducible first | exact (LeF.is hM _ _ _) | exact (LeF.has hM _ _ _) | exact (LeF.need hM _ _ _) | exact (LeF.N hM _ _ _)) (fun _=>?_) (fun _=>?_)))
 refine qj0 (LN) LQ qo0 (fun ok er=>QK0 .no ok er (FX (XF nn)) es n d p) h1 he ?_ ?_ ?_ ?_
 all_goals (intro _;kernel_rfl)
theorem jF2 (es:List V) (a b:List UInt8) (p:Int):le1 (qS0 .no .ok .er (MF nn) es 81 a b p) (exN (hpP es p) (rn PP EP CP (nn+1) (.call 76 [.ptr 0 0 0,.str a,.str b,.func (.func 81) [.ptr 0 0 0] []] (hpP es p)))):=by
 have he:=Kd1 (XF nn) (rn PP EP CP nn) (PR.no:PR Rx Int) (exN (hpP es p)) es p a b
 refine XY0 (fun ok er=>qS0 .no ok er (FX (XF nn)) es 81 a b p) ?_ he
 unfold qS0
 (repeat' first | with_reducible exact qg0 | with_reducible apply qr0 | with_reducible apply qM0 | (with_reducible refine qk0 (by with_reducible first | exact (LeF.has hM _ _ _) | exact (LeF.need hM _ _ _) | exact (LeF.N hM _ _ _) | exact (LeF.rowsL hM _ _ _ _ _ _ _ _)) (fun _=>?_) (fun _=>?_)))
 all_goals exact .inr rfl
theorem jK2 (es:List V) (a b:List UInt8) (ver len:Nat) (acc:List V) (p:Int):le1 (qA0 .no .ok .er (MF nn) es 81 a b ver len acc p) (exR (qY0 [0,1,2,3] 9 3 ((base 76 25).on [(0,.ptr 0 0 0),(1,.str a),(2,.str b),(3,.func (.func 81) [.ptr 0 0 0] []),(9,sN 3 ver len)]) (hpR es p [lN ver acc])) (qX0 3 ((base 76 25).on [(0,.ptr 0 0 0),(1,.str a),(2,.str b),(3,.func (.func 81) [.ptr 0 0 0] []),(9,sN 3 ver len)]) (hpR es p [lN ver acc])) (rn PP EP CP (nn+1) (.code (.loop (lpB PP 76 0)) ((base 76 25).on [(0,.ptr 0 0 0),(1,.str a),(2,.str b),(3,.func (.func 81) [.ptr 0 0 0] []),(9,sN 3 ver len)]) (hpR es p [lN ver acc])))):=by
 have he:=Ki1 (XF nn) (rn PP EP CP nn) (PR.no:PR Rw (Int×Nat)) (exR (qY0 [0,1,2,3] 9 3 ((base 76 25).on [(0,.ptr 0 0 0),(1,.str a),(2,.str b),(3,.func (.func 81) [.ptr 0 0 0] []),(9,sN 3 ver len)]) (hpR es p [lN ver acc])) (qX0 3 ((base 76 25).on [(0,.ptr 0 0 0),(1,.str a),(2,.str b),(3,.func (.func 81) [.ptr 0 0 0] []),(9,sN 3 ver len)]) (hpR es p [lN ver acc]))) es p a b ver len acc
 have h1:le1 (qA0 .no .ok .er (MF nn) es 81 a b ver len acc p) (qA0 .no .ok .er (FX (XF nn)) es 81 a b ver len acc p):=by
  unfold qA0
  (repeat' first | with_reducible exact qg0 | with_reducible apply qr0 | with_reducible apply qM0 | (with_reducible refine qk0 (by with_reducible first | exact (LeF.has hM _ _ _) | exact (LeF.N hM _ _ _) | exact (LeF.rowsL hM _ _ _ _ _ _ _ _)) (fun _=>?_) (fun _=>?_)))
 refine qj0 (LVr 9 3) LQV qo0 (fun ok er=>qA0 .no ok er (FX (XF nn)) es 81 a b ver len acc p) h1 he ?_ ?_ ?_ ?_
 all_goals (intro _;kernel_rfl)
theorem jE2 (es:List V) (a b:List UInt8) (p:Int):le1 (qS0 .no .ok .er (MF nn) es 77 a b p) (exN (hpP es p) (rn PP EP CP (nn+1) (.call 76 [.ptr 0 0 0,.str a,.str b,.func (.func 77) [.ptr 0 0 0] []] (hpP es p)))):=by
 have he:=Kc1 (XF nn) (rn PP EP CP nn) (PR.no:PR Rx Int) (exN (hpP es p)) es p a b
 refine XY0 (fun ok er=>qS0 .no ok er (FX (XF nn)) es 77 a b p) ?_ he
 unfold qS0
 (repeat' first | with_reducible exact qg0 | with_reducible apply qr0 | with_reducible apply qM0 | (with_reducible refine qk0 (by with_reducible first | exact (LeF.has hM _ _ _) | exact (LeF.need hM _ _ _) | exact (LeF.N hM _ _ _) | exact (LeF.rowsL hM _ _ _ _ _ _ _ _)) (fun _=>?_) (fun _=>?_)))
 all_goals exact .inr rfl
theorem jJ2 (es:List V) (a b:List UInt8) (ver len:Nat) (acc:List V) (p:Int):le1 (qA0 .no .ok .er (MF nn) es 77 a b ver len acc p) (exR (qY0 [0,1,2,3] 9 3 ((base 76 25).on [(0,.ptr 0 0 0),(1,.str a),(2,.str b),(3,.func (.func 77) [.ptr 0 0 0] []),(9,sN 3 ver len)]) (hpR es p [lN ver acc])) (qX0 3 ((base 76 25).on [(0,.ptr 0 0 0),(1,.str a),(2,.str b),(3,.func (.func 77) [.ptr 0 0 0] []),(9,sN 3 ver len)]) (hpR es p [lN ver acc])) (rn PP EP CP (nn+1) (.code (.loop (lpB PP 76 0)) ((base 76 25).on [(0,.ptr 0 0 0),(1,.str a),(2,.str b),(3,.func (.func 77) [.ptr 0 0 0] []),(9,sN 3 ver len)]) (hpR es p [lN ver acc])))):=by
 have he:=Kh1 (XF nn) (rn PP EP CP nn) (PR.no:PR Rw (Int×Nat)) (exR (qY0 [0,1,2,3] 9 3 ((base 76 25).on [(0,.ptr 0 0 0),(1,.str a),(2,.str b),(3,.func (.func 77) [.ptr 0 0 0] []),(9,sN 3 ver len)]) (hpR es p [lN ver acc])) (qX0 3 ((base 76 25).on [(0,.ptr 0 0 0),(1,.str a),(2,.str b),(3,.func (.func 77) [.ptr 0 0 0] []),(9,sN 3 ver len)]) (hpR es p [lN ver acc]))) es p a b ver len acc
 have h1:le1 (qA0 .no .ok .er (MF nn) es 77 a b ver len acc p) (qA0 .no .ok .er (FX (XF nn)) es 77 a b ver len acc p):=by
  unfold qA0
  (repeat' first | with_reducible exact qg0 | with_reducible apply qr0 | with_reducible apply qM0 | (with_reducible refine qk0 (by with_reducible first | exact (LeF.has hM _ _ _) | exact (LeF.N hM _ _ _) | exact (LeF.rowsL hM _ _ _ _ _ _ _ _)) (fun _=>?_) (fun _=>?_)))
 refine qj0 (LVr 9 3) LQV qo0 (fun ok er=>qA0 .no ok er (FX (XF nn)) es 77 a b ver len acc p) h1 he ?_ ?_ ?_ ?_
 all_goals (intro _;kernel_rfl)
theorem jD2 (es:List V) (a b:List UInt8) (p:Int):le1 (qS0 .no .ok .er (MF nn) es 55 a b p) (exN (hpP es p) (rn PP EP CP (nn+1) (.call 76 [.ptr 0 0 0,.str a,.str b,.func (.func 55) [.ptr 0 0 0] []] (hpP es p)))):=by
 have he:=Kb1 (XF nn) (rn PP EP CP nn) (PR.no:PR Rx Int) (exN (hpP es p)) es p a b
 refine XY0 (fun ok er=>qS0 .no ok er (FX (XF nn)) es 55 a b p) ?_ he
 unfold qS0
 (repeat' first | with_reducible exact qg0 | with_reducible apply qr0 | with_reducible apply qM0 | (with_reducible refine qk0 (by with_reducible first | exact (LeF.has hM _ _ _) | exact (LeF.need hM _ _ _) | exact (LeF.N hM _ _ _) | exact (LeF.rowsL hM _ _ _ _ _ _ _ _)) (fun _=>?_) (fun _=>?_)))
 all_goals exact .inr rfl
theorem jI2 (es:List V) (a b:List UInt8) (ver len:Nat) (acc:List V) (p:Int):le1 (qA0 .no .ok .er (MF nn) es 55 a b ver len acc p) (exR (qY0 [0,1,2,3] 9 3 ((base 76 25).on [(0,.ptr 0 0 0),(1,.str a),(2,.str b),(3,.func (.func 55) [.ptr 0 0 0] []),(9,sN 3 ver len)]) (hpR es p [lN ver acc])) (qX0 3 ((base 76 25).on [(0,.ptr 0 0 0),(1,.str a),(2,.str b),(3,.func (.func 55) [.ptr 0 0 0] []),(9,sN 3 ver len)]) (hpR es p [lN ver acc])) (rn PP EP CP (nn+1) (.code (.loop (lpB PP 76 0)) ((base 76 25).on [(0,.ptr 0 0 0),(1,.str a),(2,.str b),(3,.func (.func 55) [.ptr 0 0 0] []),(9,sN 3 ver len)]) (hpR es p [lN ver acc])))):=by
 have he:=Kg1 (XF nn) (rn PP EP CP nn) (PR.no:PR Rw (Int×Nat)) (exR (qY0 [0,1,2,3] 9 3 ((base 76 25).on [(0,.ptr 0 0 0),(1,.str a),(2,.str b),(3,.func (.func 55) [.ptr 0 0 0] []),(9,sN 3 ver len)]) (hpR es p [lN ver acc])) (qX0 3 ((base 76 25).on [(0,.ptr 0 0 0),(1,.str a),(2,.str b),(3,.func (.func 55) [.ptr 0 0 0] []),(9,sN 3 ver len)]) (hpR es p [lN ver acc]))) es p a b ver len acc
 have h1:le1 (qA0 .no .ok .er (MF nn) es 55 a b ver len acc p) (qA0 .no .ok .er (FX (XF nn)) es 55 a b ver len acc p):=by
  unfold qA0
  (repeat' first | with_reducible exact qg0 | with_reducible apply qr0 | with_reducible apply qM0 | (with_reducible refine qk0 (by with_reducible first | exact (LeF.has hM _ _ _) | exact (LeF.N hM _ _ _) | exact (LeF.rowsL hM _ _ _ _ _ _ _ _)) (fun _=>?_) (fun _=>?_)))
 refine qj0 (LVr 9 3) LQV qo0 (fun ok er=>qA0 .no ok er (FX (XF nn)) es 55 a b ver len acc p) h1 he ?_ ?_ ?_ ?_
 all_goals (intro _;kernel_rfl)
theorem jC2 (es:List V) (a b:List UInt8) (p:Int):le1 (qS0 .no .ok .er (MF nn) es 156 a b p) (exN (hpP es p) (rn PP EP CP (nn+1) (.call 76 [.ptr 0 0 0,.str a,.str b,.func (.func 156) [.ptr 0 0 0] []] (hpP es p)))):=by
 have he:=Ka1 (XF nn) (rn PP EP CP nn) (PR.no:PR Rx Int) (exN (hpP es p)) es p a b
 refine XY0 (fun ok er=>qS0 .no ok er (FX (XF nn)) es 156 a b p) ?_ he
 unfold qS0
 (repeat' first | with_reducible exact qg0 | with_reducible apply qr0 | with_reducible apply qM0 | (with_reducible refine qk0 (by with_reducible first | exact (LeF.has hM _ _ _) | exact (LeF.need hM _ _ _) | exact (LeF.N hM _ _ _) | exact (LeF.rowsL hM _ _ _ _ _ _ _ _)) (fun _=>?_) (fun _=>?_)))
 all_goals exact .inr rfl
theorem jH2 (es:List V) (a b:List UInt8) (ver len:Nat) (acc:List V) (p:Int):le1 (qA0 .no .ok .er (MF nn) es 156 a b ver len acc p) (exR (qY0 [0,1,2,3] 9 3 ((base 76 25).on [(0,.ptr 0 0 0),(1,.str a),(2,.str b),(3,.func (.func 156) [.ptr 0 0 0] []),(9,sN 3 ver len)]) (hpR es p [lN ver acc])) (qX0 3 ((base 76 25).on [(0,.ptr 0 0 0),(1,.str a),(2,.str b),(3,.func (.func 156) [.ptr 0 0 0] []),(9,sN 3 ver len)]) (hpR es p [lN ver acc])) (rn PP EP CP (nn+1) (.code (.loop (lpB PP 76 0)) ((base 76 25).on [(0,.ptr 0 0 0),(1,.str a),(2,.str b),(3,.func (.func 156) [.ptr 0 0 0] []),(9,sN 3 ver len)]) (hpR es p [lN ver acc])))):=by
 have he:=Kf1 (XF nn) (rn PP EP CP nn) (PR.no:PR Rw (Int×Nat)) (exR (qY0 [0,1,2,3] 9 3 ((base 76 25).on [(0,.ptr 0 0 0),(1,.str a),(2,.str b),(3,.func (.func 156) [.ptr 0 0 0] []),(9,sN 3 ver len)]) (hpR es p [lN ver acc])) (qX0 3 ((base 76 25).on [(0,.ptr 0 0 0),(1,.str a),(2,.str b),(3,.func (.func 156) [.ptr 0 0 0] []),(9,sN 3 ver len)]) (hpR es p [lN ver acc]))) es p a b ver len acc
 have h1:le1 (qA0 .no .ok .er (MF nn) es 156 a b ver len acc p) (qA0 .no .ok .er (FX (XF nn)) es 156 a b ver len acc p):=by
  unfold qA0
  (repeat' first | with_reducible exact qg0 | with_reducible apply qr0 | with_reducible apply qM0 | (with_reducible refine qk0 (by with_reducible first | exact (LeF.has hM _ _ _) | exact (LeF.N hM _ _ _) | exact (LeF.rowsL hM _ _ _ _ _ _ _ _)) (fun _=>?_) (fun _=>?_)))
 refine qj0 (LVr 9 3) LQV qo0 (fun ok er=>qA0 .no ok er (FX (XF nn)) es 156 a b ver len acc p) h1 he ?_ ?_ ?_ ?_
 all_goals (intro _;kernel_rfl)
theorem jB2 (es:List V) (a b:List UInt8) (p:Int):le1 (qS0 .no .ok .er (MF nn) es 114 a b p) (exN (hpP es p) (rn PP EP CP (nn+1) (.call 76 [.ptr 0 0 0,.str a,.str b,.func (.func 114) [.ptr 0 0 0] []] (hpP es p)))):=by
 have he:=XZ1 (XF nn) (rn PP EP CP nn) (PR.no:PR Rx Int) (exN (hpP es p)) es p a b
 refine XY0 (fun ok er=>qS0 .no ok er (FX (XF nn)) es 114 a b p) ?_ he
 unfold qS0
 (repeat' first | with_reducible exact qg0 | with_reducible apply qr0 | with_reducible apply qM0 | (with_reducible refine qk0 (by with_reducible first | exact (LeF.has hM _ _ _) | exact (LeF.need hM _ _ _) | exact (LeF.N hM _ _ _) | exact (LeF.rowsL hM _ _ _ _ _ _ _ _)) (fun _=>?_) (fun _=>?_)))
 all_goals exact .inr rfl
theorem jG2 (es:List V) (a b:List UInt8) (ver len:Nat) (acc:List V) (p:Int):le1 (qA0 .no .ok .er (MF nn) es 114 a b ver len acc p) (exR (qY0 [0,1,2,3] 9 3 ((base 76 25).on [(0,.ptr 0 0 0),(1,.str a),(2,.str b),(3,.func (.func 114) [.ptr 0 0 0] []),(9,sN 3 ver len)]) (hpR es p [lN ver acc])) (qX0 3 ((base 76 25).on [(0,.ptr 0 0 0),(1,.str a),(2,.str b),(3,.func (.func 114) [.ptr 0 0 0] []),(9,sN 3 ver len)]) (hpR es p [lN ver acc])) (rn PP EP CP (nn+1) (.code (.loop (lpB PP 76 0)) ((base 76 25).on [(0,.ptr 0 0 0),(1,.str a),(2,.str b),(3,.func (.func 114) [.ptr 0 0 0] []),(9,sN 3 ver len)]) (hpR es p [lN ver acc])))):=by
 have he:=Ke1 (XF nn) (rn PP EP CP nn) (PR.no:PR Rw (Int×Nat)) (exR (qY0 [0,1,2,3] 9 3 ((base 76 25).on [(0,.ptr 0 0 0),(1,.str a),(2,.str b),(3,.func (.func 114) [.ptr 0 0 0] []),(9,sN 3 ver len)]) (hpR es p [lN ver acc])) (qX0 3 ((base 76 25).on [(0,.ptr 0 0 0),(1,.str a),(2,.str b),(3,.func (.func 114) [.ptr 0 0 0] []),(9,sN 3 ver len)]) (hpR es p [lN ver acc]))) es p a b ver len acc
 have h1:le1 (qA0 .no .ok .er (MF nn) es 114 a b ver len acc p) (qA0 .no .ok .er (FX (XF nn)) es 114 a b ver len acc p):=by
  unfold qA0
  (repeat' first | with_reducible exact qg0 | with_reducible apply qr0 | with_reducible apply qM0 | (with_reducible refine qk0 (by with_reducible first | exact (LeF.has hM _ _ _) | exact (LeF.N hM _ _ _) | exact (LeF.rowsL hM _ _ _ _ _ _ _ _)) (fun _=>?_) (fun _=>?_)))
 refine qj0 (LVr 9 3) LQV qo0 (fun ok er=>qA0 .no ok er (FX (XF nn)) es 114 a b ver len acc p) h1 he ?_ ?_ ?_ ?_
 all_goals (intro _;kernel_rfl)
theorem s_expL (es:List V) (l c:Int) (n:Nd) (p:Int):le1 (jW0 .no .ok .er (MF nn) es l c n p) (exR (yF0 [0,1,4] ((base 83 50).on [(0,.ptr 0 0 0),(1,.int .i64 l),(4,.ptr 3 0 0),(5,.ptr 4 0 0),(6,.int .i64 c)]) (hpR es p [vN 0 [] .nils,vN n.k n.t (.osl 3 n.ks)])) (yE0 ((base 83 50).on [(0,.ptr 0 0 0),(1,.int .i64 l),(4,.ptr 3 0 0),(5,.ptr 4 0 0),(6,.int .i64 c)]) (hpR es p [vN 0 [] .nils,vN n.k n.t (.osl 3 n.ks)])) (rn PP EP CP (nn+1) (.code (.loop (lpB PP 83 0)) ((base 83 50).on [(0,.ptr 0 0 0),(1,.int .i64 l),(4,.ptr 3 0 0),(5,.ptr 4 0 0),(6,.int .i64 c)]) (hpR es p [vN 0 [] .nils,vN n.k n.t (.osl 3 n.ks)])))):=by
 have he:=e_expL (XF nn) (rn PP EP CP nn) (PR.no:PR (Nd×Int) Int) (exR (yF0 [0,1,4] ((base 83 50).on [(0,.ptr 0 0 0),(1,.int .i64 l),(4,.ptr 3 0 0),(5,.ptr 4 0 0),(6,.int .i64 c)]) (hpR es p [vN 0 [] .nils,vN n.k n.t (.osl 3 n.ks)])) (yE0 ((base 83 50).on [(0,.ptr 0 0 0),(1,.int .i64 l),(4,.ptr 3 0 0),(5,.ptr 4 0 0),(6,.int .i64 c)]) (hpR es p [vN 0 [] .nils,vN n.k n.t (.osl 3 n.ks)]))) es p l c n
 have h1:le1 (jW0 .no .ok .er (MF nn) es l c n p) (jW0 .no .ok .er (FX (XF nn)) es l c n p):=by
  unfold jW0
  (repeat' first | with_reducible exact qg0 | with_reducible apply qr0 | with_reducible apply qM0 | (with_reducible refine qk0 (by with_reducible first | exact (LeF.tok hM _ _) | exact (LeF.exp hM _ _ _) | exact (LeF.expL hM _ _ _ _ _) | exact (LeF.level hM _) | exact (LeF.right hM _) | exact (LeF.side hM _) | exact (LeF.of hM _ _)) (fun _=>?_) (fun _=>?_)))
 refine qj0 (LN) LQ qo0 (fun ok er=>jW0 .no ok er (FX (XF nn)) es l c n p) h1 he ?_ ?_ ?_ ?_
 all_goals (intro _;kernel_rfl)
theorem ju2 (es:List V) (n:Nd) (p:Int):le1 (Qt0 .no .ok .er (MF nn) es n p) (exR (yF0 [0,2] ((base 113 45).on [(0,.ptr 0 0 0),(2,.ptr 3 0 0),(3,.ptr 4 0 0)]) (hpR es p [vN 0 [] .nils,vN n.k n.t (.osl 3 n.ks)])) (yE0 ((base 113 45).on [(0,.ptr 0 0 0),(2,.ptr 3 0 0),(3,.ptr 4 0 0)]) (hpR es p [vN 0 [] .nils,vN n.k n.t (.osl 3 n.ks)])) (rn PP EP CP (nn+1) (.code (.loop (lpB PP 113 0)) ((base 113 45).on [(0,.ptr 0 0 0),(2,.ptr 3 0 0),(3,.ptr 4 0 0)]) (hpR es p [vN 0 [] .nils,vN n.k n.t (.osl 3 n.ks)])))):=by
 have he:=XS1 (XF nn) (rn PP EP CP nn) (PR.no:PR (Nd×Int) Int) (exR (yF0 [0,2] ((base 113 45).on [(0,.ptr 0 0 0),(2,.ptr 3 0 0),(3,.ptr 4 0 0)]) (hpR es p [vN 0 [] .nils,vN n.k n.t (.osl 3 n.ks)])) (yE0 ((base 113 45).on [(0,.ptr 0 0 0),(2,.ptr 3 0 0),(3,.ptr 4 0 0)]) (hpR es p [vN 0 [] .nils,vN n.k n.t (.osl 3 n.ks)]))) es p n
 have h1:le1 (Qt0 .no .ok .er (MF nn) es n p) (Qt0 .no .ok .er (FX (XF nn)) es n p):=by
  unfold Qt0
  (repeat' first | with_reducible exact qg0 | with_reducible apply qr0 | with_reducible apply qM0 | (with_reducible refine qk0 (by with_reducible first | exact (LeF.tok hM _ _) | exact (LeF.is hM _ _ _) | exact (LeF.has hM _ _ _) | exact (LeF.take hM _ _ _) | exact (LeF.within hM _ _ _ _) | exact (LeF.N hM _ _ _) | exact (LeF.postL hM _ _ _)) (fun _=>?_) (fun _=>?_)))
 refine qj0 (LN) LQ qo0 (fun ok er=>Qt0 .no ok er (FX (XF nn)) es n p) h1 he ?_ ?_ ?_ ?_
 all_goals (intro _;kernel_rfl)
theorem jM2 (es:List V) (t:List UInt8) (ver len:Nat) (acc:List V) (p:Int):le1 (QG0 .no .ok .er (MF nn) es t ver len acc p) (exR (zX0 [0,2,3] ((base 74 44).on [(0,.ptr 0 0 0),(2,.ptr 3 0 0),(3,.ptr 4 0 0)]) (hpR es p [vN 0 [] .nils,vN 6 t (sN 5 ver len),lN ver acc])) (zW0 ((base 74 44).on [(0,.ptr 0 0 0),(2,.ptr 3 0 0),(3,.ptr 4 0 0)]) (hpR es p [vN 0 [] .nils,vN 6 t (sN 5 ver len),lN ver acc])) (rn PP EP CP (nn+1) (.code (.loop (lpB PP 74 0)) ((base 74 44).on [(0,.ptr 0 0 0),(2,.ptr 3 0 0),(3,.ptr 4 0 0)]) (hpR es p [vN 0 [] .nils,vN 6 t (sN 5 ver len),lN ver acc])))):=by
 have he:=Kk1 (XF nn) (rn PP EP CP nn) (PR.no:PR Rw (Int×Nat)) (exR (zX0 [0,2,3] ((base 74 44).on [(0,.ptr 0 0 0),(2,.ptr 3 0 0),(3,.ptr 4 0 0)]) (hpR es p [vN 0 [] .nils,vN 6 t (sN 5 ver len),lN ver acc])) (zW0 ((base 74 44).on [(0,.ptr 0 0 0),(2,.ptr 3 0 0),(3,.ptr 4 0 0)]) (hpR es p [vN 0 [] .nils,vN 6 t (sN 5 ver len),lN ver acc]))) es p t ver len acc
 have h1:le1 (QG0 .no .ok .er (MF nn) es t ver len acc p) (QG0 .no .ok .er (FX (XF nn)) es t ver len acc p):=by
  unfold QG0
  (repeat' first | with_reducible exact qg0 | with_reducible apply qr0 | with_reducible apply qM0 | (with_reducible refine qk0 (by with_reducible first | exact (LeF.tok hM _ _) | exact (LeF.take hM _ _ _) | exact (LeF.N hM _ _ _) | exact (LeF.textL hM _ _ _ _ _ _)) (fun _=>?_) (fun _=>?_)))
 refine qj0 (LVk) LQV qo0 (fun ok er=>QG0 .no ok er (FX (XF nn)) es t ver len acc p) h1 he ?_ ?_ ?_ ?_
 all_goals (intro _;kernel_rfl)
theorem js2 (es:List V) (ver len:Nat) (acc:List V) (p:Int):le1 (Qq0 .no .ok .er (MF nn) es ver len acc p) (exR (zX0 [0,2,3] ((base 79 22).on [(0,.ptr 0 0 0),(2,.ptr 3 0 0),(3,.ptr 4 0 0)]) (hpR es p [vN 0 [] .nils,vN 6 [] (sN 5 ver len),lN ver acc])) (zW0 ((base 79 22).on [(0,.ptr 0 0 0),(2,.ptr 3 0 0),(3,.ptr 4 0 0)]) (hpR es p [vN 0 [] .nils,vN 6 [] (sN 5 ver len),lN ver acc])) (rn PP EP CP (nn+1) (.code (.loop (lpB PP 79 0)) ((base 79 22).on [(0,.ptr 0 0 0),(2,.ptr 3 0 0),(3,.ptr 4 0 0)]) (hpR es p [vN 0 [] .nils,vN 6 [] (sN 5 ver len),lN ver acc])))):=by
 have he:=XQ1 (XF nn) (rn PP EP CP nn) (PR.no:PR Rw (Int×Nat)) (exR (zX0 [0,2,3] ((base 79 22).on [(0,.ptr 0 0 0),(2,.ptr 3 0 0),(3,.ptr 4 0 0)]) (hpR es p [vN 0 [] .nils,vN 6 [] (sN 5 ver len),lN ver acc])) (zW0 ((base 79 22).on [(0,.ptr 0 0 0),(2,.ptr 3 0 0),(3,.ptr 4 0 0)]) (hpR es p [vN 0 [] .nils,vN 6 [] (sN 5 ver len),lN ver acc]))) es p ver len acc
 have h1:le1 (Qq0 .no .ok .er (MF nn) es ver len acc p) (Qq0 .no .ok .er (FX (XF nn)) es ver len acc p):=by
  unfold Qq0
  (repeat' first | with_reducible exact qg0 | with_reducible apply qr0 | with_reducible apply qM0 | (with_reducible refine qk0 (by with_reducible first | exact (LeF.tok hM _ _) | exact (LeF.take hM _ _ _) | exact (LeF.plainL hM _ _ _ _ _)) (fun _=>?_) (fun _=>?_)))
 refine qj0 (LVk) LQV qo0 (fun ok er=>Qq0 .no ok er (FX (XF nn)) es ver len acc p) h1 he ?_ ?_ ?_ ?_
 all_goals (intro _;kernel_rfl)
theorem ji2 (es:List V) (ver len:Nat) (acc:List V) (p:Int):le1 (Qa0 .no .ok .er (MF nn) es ver len acc p) (exR (zX0 [0,2,3] ((base 46 38).on [(0,.ptr 0 0 0),(2,.ptr 3 0 0),(3,.ptr 4 0 0),(4,.bool true)]) (hpR es p [vN 0 [] .nils,vN 14 [] (sN 5 ver len),lN ver acc])) (zW0 ((base 46 38).on [(0,.ptr 0 0 0),(2,.ptr 3 0 0),(3,.ptr 4 0 0),(4,.bool true)]) (hpR es p [vN 0 [] .nils,vN 14 [] (sN 5 ver len),lN ver acc])) (rn PP EP CP (nn+1) (.code (.loop (lpB PP 46 0)) ((base 46 38).on [(0,.ptr 0 0 0),(2,.ptr 3 0 0),(3,.ptr 4 0 0),(4,.bool true)]) (hpR es p [vN 0 [] .nils,vN 14 [] (sN 5 ver len),lN ver acc])))):=by
 have he:=XH1 (XF nn) (rn PP EP CP nn) (PR.no:PR Rw (Int×Nat)) (exR (zX0 [0,2,3] ((base 46 38).on [(0,.ptr 0 0 0),(2,.ptr 3 0 0),(3,.ptr 4 0 0),(4,.bool true)]) (hpR es p [vN 0 [] .nils,vN 14 [] (sN 5 ver len),lN ver acc])) (zW0 ((base 46 38).on [(0,.ptr 0 0 0),(2,.ptr 3 0 0),(3,.ptr 4 0 0),(4,.bool true)]) (hpR es p [vN 0 [] .nils,vN 14 [] (sN 5 ver len),lN ver acc]))) es p ver len acc
 have h1:le1 (Qa0 .no .ok .er (MF nn) es ver len acc p) (Qa0 .no .ok .er (FX (XF nn)) es ver len acc p):=by
  unfold Qa0
  (repeat' first | with_reducible exact qg0 | with_reducible apply qr0 | with_reducible apply qM0 | (with_reducible refine qk0 (by with_reducible first | exact (LeF.has hM _ _ _) | exact (LeF.need hM _ _ _) | exact (LeF.N hM _ _ _) | exact (LeF.ifsL hM _ _ _ _ _ _)) (fun _=>?_) (fun _=>?_)))
 refine qj0 (LVk) LQV qo0 (fun ok er=>Qa0 .no ok er (FX (XF nn)) es ver len acc p) h1 he ?_ ?_ ?_ ?_
 all_goals (intro _;kernel_rfl)
theorem jh2 (es:List V) (ver len:Nat) (acc:List V) (p:Int):le1 (jZ0 .no .ok .er (MF nn) es ver len acc p) (exR (zX0 [0,2,3] ((base 46 38).on [(0,.ptr 0 0 0),(2,.ptr 3 0 0),(3,.ptr 4 0 0),(4,.bool false)]) (hpR es p [vN 0 [] .nils,vN 14 [] (sN 5 ver len),lN ver acc])) (zW0 ((base 46 38).on [(0,.ptr 0 0 0),(2,.ptr 3 0 0),(3,.ptr 4 0 0),(4,.bool false)]) (hpR es p [vN 0 [] .nils,vN 14 [] (sN 5 ver len),lN ver acc])) (rn PP EP CP (nn+1) (.code (.loop (lpB PP 46 0)) ((base 46 38).on [(0,.ptr 0 0 0),(2,.ptr 3 0 0),(3,.ptr 4 0 0),(4,.bool false)]) (hpR es p [vN 0 [] .nils,vN 14 [] (sN 5 ver len),lN ver acc])))):=by
 have _:=hM
 have he:=XG1 (XF nn) (rn PP EP CP nn) (PR.no:PR Rw (Int×Nat)) (exR (zX0 [0,2,3] ((base 46 38).on [(0,.ptr 0 0 0),(2,.ptr 3 0 0),(3,.ptr 4 0 0),(4,.bool false)]) (hpR es p [vN 0 [] .nils,vN 14 [] (sN 5 ver len),lN ver acc])) (zW0 ((base 46 38).on [(0,.ptr 0 0 0),(2,.ptr 3 0 0),(3,.ptr 4 0 0),(4,.bool false)]) (hpR es p [vN 0 [] .nils,vN 14 [] (sN 5 ver len),lN ver acc]))) es p ver len acc
 have h1:le1 (jZ0 .no .ok .er (MF nn) es ver len acc p) (jZ0 .no .ok .er (FX (XF nn)) es ver len acc p):=by
  unfold jZ0
  (repeat' first | with_reducible exact qg0)
 refine qj0 (LVk) LQV qo0 (fun ok er=>jZ0 .no ok er (FX (XF nn)) es ver len acc p) h1 he ?_ ?_ ?_ ?_
 all_goals (intro _;kernel_rfl)
theorem jv2 (es:List V) (ver len:Nat) (acc:List V) (p:Int):le1 (Qu0 .no .ok .er (MF nn) es ver len acc p) (exR (qY0 [0,2] 3 4 ((base 26 60).on [(0,.ptr 0 0 0),(2,.ptr 3 0 0),(3,sN 4 ver len)]) (hpR es p [vN 0 [] .nils,lN ver acc])) (qX0 4 ((base 26 60).on [(0,.ptr 0 0 0),(2,.ptr 3 0 0),(3,sN 4 ver len)]) (hpR es p [vN 0 [] .nils,lN ver acc])) (rn PP EP CP (nn+1) (.code (.loop (lpB PP 26 0)) ((base 26 60).on [(0,.ptr 0 0 0),(2,.ptr 3 0 0),(3,sN 4 ver len)]) (hpR es p [vN 0 [] .nils,lN ver acc])))):=by
 have he:=XT1 (XF nn) (rn PP EP CP nn) (PR.no:PR Rw (Int×Nat)) (exR (qY0 [0,2] 3 4 ((base 26 60).on [(0,.ptr 0 0 0),(2,.ptr 3 0 0),(3,sN 4 ver len)]) (hpR es p [vN 0 [] .nils,lN ver acc])) (qX0 4 ((base 26 60).on [(0,.ptr 0 0 0),(2,.ptr 3 0 0),(3,sN 4 ver len)]) (hpR es p [vN 0 [] .nils,lN ver acc]))) es p ver len acc
 have h1:le1 (Qu0 .no .ok .er (MF nn) es ver len acc p) (Qu0 .no .ok .er (FX (XF nn)) es ver len acc p):=by
  unfold Qu0
  (repeat' first | with_reducible exact qg0 | with_reducible apply qr0 | with_reducible apply qM0 | (with_reducible refine qk0 (by with_reducible first | exact (LeF.is hM _ _ _) | exact (LeF.N hM _ _ _) | exact (LeF.progL hM _ _ _ _ _)) (fun _=>?_) (fun _=>?_)))
 refine qj0 (LVr 3 4) LQV qo0 (fun ok er=>Qu0 .no ok er (FX (XF nn)) es ver len acc p) h1 he ?_ ?_ ?_ ?_
 all_goals (intro _;kernel_rfl)
theorem jl2 (w:List UInt8):le1 (Qe0 .no .ok .er (MF nn) w) (exR (rI) (qN) (rn PP EP CP (nn+1) (.call 118 [.str w] Heap.empty))):=by
 have _:=hM
 have he:=XJ1 (XF nn) (rn PP EP CP nn) (PR.no:PR Int Int) (exR (rI) (qN)) [] 0 w
 have h1:le1 (Qe0 .no .ok .er (MF nn) w) (Qe0 .no .ok .er (FX (XF nn)) w):=by
  unfold Qe0
  (repeat' first | with_reducible exact qg0)
 refine qj0 (LI) LQN yV0 (fun ok er=>Qe0 .no ok er (FX (XF nn)) w) h1 he ?_ ?_ ?_ ?_
 all_goals (intro _;kernel_rfl)
theorem jA2 (w:List UInt8):le1 (Qz0 .no .ok .er (MF nn) w) (exR (rI) (qN) (rn PP EP CP (nn+1) (.call 119 [.str w] Heap.empty))):=by
 have _:=hM
 have he:=XY1 (XF nn) (rn PP EP CP nn) (PR.no:PR Int Int) (exR (rI) (qN)) [] 0 w
 have h1:le1 (Qz0 .no .ok .er (MF nn) w) (Qz0 .no .ok .er (FX (XF nn)) w):=by
  unfold Qz0
  (repeat' first | with_reducible exact qg0)
 refine qj0 (LI) LQN yV0 (fun ok er=>Qz0 .no ok er (FX (XF nn)) w) h1 he ?_ ?_ ?_ ?_
 all_goals (intro _;kernel_rfl)
theorem s_side (w:List UInt8):le1 (QC0 .no .ok .er (MF nn) w) (exR (rI) (qN) (rn PP EP CP (nn+1) (.call 120 [.str w] Heap.empty))):=by
 have _:=hM
 have he:=e_side (XF nn) (rn PP EP CP nn) (PR.no:PR Int Int) (exR (rI) (qN)) [] 0 w
 have h1:le1 (QC0 .no .ok .er (MF nn) w) (QC0 .no .ok .er (FX (XF nn)) w):=by
  unfold QC0
  (repeat' first | with_reducible exact qg0)
 refine qj0 (LI) LQN yV0 (fun ok er=>QC0 .no ok er (FX (XF nn)) w) h1 he ?_ ?_ ?_ ?_
 all_goals (intro _;kernel_rfl)
theorem s_of (kk:Int) (w:List UInt8):le1 (Qi0 .no .ok .er (MF nn) kk w) (exR (rW) (qN) (rn PP EP CP (nn+1) (.call 117 [.agg [.int .i64 kk,.str w]] Heap.empty))):=by
 have he:=e_of (XF nn) (rn PP EP CP nn) (PR.no:PR (List UInt8) Int) (exR (rW) (qN)) [] 0 kk w
 have h1:le1 (Qi0 .no .ok .er (MF nn) kk w) (Qi0 .no .ok .er (FX (XF nn)) kk w):=by
  unfold Qi0
  (repeat' first | with_reducible exact qg0 | with_reducible apply qr0 | (with_reducible refine qk0 (by with_reducible exact (LeF.level hM _)) (fun _=>?_) (fun _=>?_)))
 refine qj0 (LW) LQN yV0 (fun ok er=>Qi0 .no ok er (FX (XF nn)) kk w) h1 he ?_ ?_ ?_ ?_
 all_goals (intro _;kernel_rfl)
theorem jf2 (kk:Int) (w:List UInt8):le1 (jQ0 .no .ok .er (MF nn) kk w) (exR (rI) (qN) (rn PP EP CP (nn+1) (.call 40 [.agg [.int .i64 kk,.str w]] Heap.empty))):=by
 have _:=hM
 have he:=XE1 (XF nn) (rn PP EP CP nn) (PR.no:PR Int Int) (exR (rI) (qN)) [] 0 kk w
 have h1:le1 (jQ0 .no .ok .er (MF nn) kk w) (jQ0 .no .ok .er (FX (XF nn)) kk w):=by
  unfold jQ0
  (repeat' first | with_reducible exact qg0)
 refine qj0 (LI) LQN yV0 (fun ok er=>jQ0 .no ok er (FX (XF nn)) kk w) h1 he ?_ ?_ ?_ ?_
 all_goals (intro _;kernel_rfl)
theorem s_word (w:List UInt8):le1 (QL0 .no .ok .er (MF nn) w) (exR (rO) (qN) (rn PP EP CP (nn+1) (.call 158 [.str w] Heap.empty))):=by
 have _:=hM
 have he:=e_word (XF nn) (rn PP EP CP nn) (PR.no:PR Bool Int) (exR (rO) (qN)) [] 0 w
 have h1:le1 (QL0 .no .ok .er (MF nn) w) (QL0 .no .ok .er (FX (XF nn)) w):=by
  unfold QL0
  (repeat' first | with_reducible exact qg0)
 refine qj0 (LO) LQN yV0 (fun ok er=>QL0 .no ok er (FX (XF nn)) w) h1 he ?_ ?_ ?_ ?_
 all_goals (intro _;kernel_rfl)
theorem jt2 (w:List UInt8):le1 (Qr0 .no .ok .er (MF nn) w) (exR (rO) (qN) (rn PP EP CP (nn+1) (.call 115 [.str w] Heap.empty))):=by
 have he:=XR1 (XF nn) (rn PP EP CP nn) (PR.no:PR Bool Int) (exR (rO) (qN)) [] 0 w
 have h1:le1 (Qr0 .no .ok .er (MF nn) w) (Qr0 .no .ok .er (FX (XF nn)) w):=by
  unfold Qr0
  (repeat' first | with_reducible exact qg0 | with_reducible apply qr0 | (with_reducible refine qk0 (by with_reducible first | exact (LeF.word hM _) | exact (LeF.simple hM _)) (fun _=>?_) (fun _=>?_)))
 refine qj0 (LO) LQN yV0 (fun ok er=>Qr0 .no ok er (FX (XF nn)) w) h1 he ?_ ?_ ?_ ?_
 all_goals (intro _;kernel_rfl)
theorem jL2 (w:List UInt8):le1 (QD0 .no .ok .er (MF nn) w) (exR (rI) (qN) (rn PP EP CP (nn+1) (.call 157 [.str w] Heap.empty))):=by
 have he:=Kj1 (XF nn) (rn PP EP CP nn) (PR.no:PR Int Int) (exR (rI) (qN)) [] 0 w
 have h1:le1 (QD0 .no .ok .er (MF nn) w) (QD0 .no .ok .er (FX (XF nn)) w):=by
  unfold QD0
  (repeat' first | with_reducible exact qg0 | with_reducible apply qr0 | with_reducible apply qM0 | (with_reducible refine qk0 (by with_reducible first | exact (LeF.runW hM _) | exact (LeF.letter hM _)) (fun _=>?_) (fun _=>?_)))
 refine qj0 (LI) LQN yV0 (fun ok er=>QD0 .no ok er (FX (XF nn)) w) h1 he ?_ ?_ ?_ ?_
 all_goals (intro _;kernel_rfl)
theorem s_runW (w:List UInt8):le1 (QB0 .no .ok .er (MF nn) w) (exR (rI) (qN) (rn PP EP CP (nn+1) (.call 174 [.func (.func 182) [] [],.str w] Heap.empty))):=by
 have he:=e_runW (XF nn) (rn PP EP CP nn) (PR.no:PR Int Int) (exR (rI) (qN)) [] 0 w
 have h1:le1 (QB0 .no .ok .er (MF nn) w) (QB0 .no .ok .er (FX (XF nn)) w):=by
  unfold QB0
  (repeat' first | with_reducible exact qg0 | (with_reducible refine qk0 (by with_reducible exact (LeF.runL hM _ _)) (fun _=>?_) (fun _=>?_)))
 refine qj0 (LI) LQN yV0 (fun ok er=>QB0 .no ok er (FX (XF nn)) w) h1 he ?_ ?_ ?_ ?_
 all_goals (intro _;kernel_rfl)
theorem s_part (c:Int):le1 (Qn0 .no .ok .er (MF nn) c) (exR (rO) (qN) (rn PP EP CP (nn+1) (.call 182 [.int .u8 c] Heap.empty))):=by
 have he:=e_part (XF nn) (rn PP EP CP nn) (PR.no:PR Bool Int) (exR (rO) (qN)) [] 0 c
 have h1:le1 (Qn0 .no .ok .er (MF nn) c) (Qn0 .no .ok .er (FX (XF nn)) c):=by
  unfold Qn0
  (repeat' first | with_reducible exact qg0 | with_reducible apply qr0 | (with_reducible refine qk0 (by with_reducible first | exact (LeF.letter hM _) | exact (LeF.digit hM _)) (fun _=>?_) (fun _=>?_)))
 refine qj0 (LO) LQN yV0 (fun ok er=>Qn0 .no ok er (FX (XF nn)) c) h1 he ?_ ?_ ?_ ?_
 all_goals (intro _;kernel_rfl)
theorem s_runL (w:List UInt8) (n:Int):le1 (yN0 .no .ok .er (MF nn) w n) (exR (rRun ((base 174 20).on [(0,.func (.func 182) [] []),(1,.str w),(5,.int .i64 n)]) (Heap.empty)) (qN) (rn PP EP CP (nn+1) (.code (.loop (lpB PP 174 0)) ((base 174 20).on [(0,.func (.func 182) [] []),(1,.str w),(5,.int .i64 n)]) (Heap.empty)))):=by
 have he:=e_runL (XF nn) (rn PP EP CP nn) (PR.no:PR Int Int) (exR (rRun ((base 174 20).on [(0,.func (.func 182) [] []),(1,.str w),(5,.int .i64 n)]) (Heap.empty)) (qN)) [] 0 w n
 have h1:le1 (yN0 .no .ok .er (MF nn) w n) (yN0 .no .ok .er (FX (XF nn)) w n):=by
  unfold yN0
  (repeat' first | with_reducible exact qg0 | with_reducible apply qr0 | with_reducible apply qM0 | (with_reducible refine qk0 (by with_reducible first | exact (LeF.runL hM _ _) | exact (LeF.part hM _)) (fun _=>?_) (fun _=>?_)))
 refine qj0 (LJ) LQN isCode (fun ok er=>yN0 .no ok er (FX (XF nn)) w n) h1 he ?_ ?_ ?_ ?_
 all_goals (intro _;kernel_rfl)
theorem s_deep (es:List V) :le1 (jR0 .no .ok .er (MF nn) es ) (exR (rD) (qN) (rn PP EP CP (nn+1) (.call 23 [.osl 4 es] Heap.empty))):=by
 have he:=e_deep (XF nn) (rn PP EP CP nn) (PR.no:PR (Int×Bool) Int) (exR (rD) (qN)) es 0
 have h1:le1 (jR0 .no .ok .er (MF nn) es ) (jR0 .no .ok .er (FX (XF nn)) es ):=by
  unfold jR0
  (repeat' first | with_reducible exact qg0 | (with_reducible refine qk0 (by with_reducible exact (LeF.deepL hM _ _ _)) (fun _=>?_) (fun _=>?_)))
 refine qj0 (LD) LQN yV0 (fun ok er=>jR0 .no ok er (FX (XF nn)) es ) h1 he ?_ ?_ ?_ ?_
 all_goals (intro _;kernel_rfl)
theorem jg2 (es:List V) (n i:Int):le1 (yM0 .no .ok .er (MF nn) es n i) (exR (rDL ((base 23 24).on [(4,.int .i64 n),(7,.osl 4 es),(8,.int .i64 es.length),(9,.int .i64 i)]) (Heap.empty)) (qDL ((base 23 24).on [(4,.int .i64 n),(7,.osl 4 es),(8,.int .i64 es.length),(9,.int .i64 i)]) (Heap.empty)) (rn PP EP CP (nn+1) (.code (.loop (lpB PP 23 0)) ((base 23 24).on [(4,.int .i64 n),(7,.osl 4 es),(8,.int .i64 es.length),(9,.int .i64 i)]) (Heap.empty)))):=by
 have he:=XF1 (XF nn) (rn PP EP CP nn) (PR.no:PR Unit Int) (exR (rDL ((base 23 24).on [(4,.int .i64 n),(7,.osl 4 es),(8,.int .i64 es.length),(9,.int .i64 i)]) (Heap.empty)) (qDL ((base 23 24).on [(4,.int .i64 n),(7,.osl 4 es),(8,.int .i64 es.length),(9,.int .i64 i)]) (Heap.empty))) es 0 n i
 have h1:le1 (yM0 .no .ok .er (MF nn) es n i) (yM0 .no .ok .er (FX (XF nn)) es n i):=by
  unfold yM0
  (repeat' first | with_reducible exact qg0 | with_reducible apply qr0 | with_reducible apply qM0 | (with_reducible refine qk0 (by with_reducible first | exact (LeF.change hM _ _) | exact (LeF.deepL hM _ _ _)) (fun _=>?_) (fun _=>?_)))
 refine qj0 (LG) LQG isDn (fun ok er=>yM0 .no ok er (FX (XF nn)) es n i) h1 he ?_ ?_ ?_ ?_
 all_goals (intro _;kernel_rfl)
theorem qm2:LeF (MF (nn+1)) (FX (XF (nn+1))) where
 tok:=fun es p=>s_tok hM es p
 is:=fun es s p=>s_is hM es s p
 has:=fun es s p=>s_has hM es s p
 need:=fun es s p=>s_need hM es s p
 take:=fun es c p=>s_take hM es c p
 name:=fun es p=>s_name hM es p
 key:=fun es p=>s_key hM es p
 exp:=fun es l p=>s_exp hM es l p
 within:=fun es n d p=>jO2 hM es n d p
 N:=by
  intro j es p
  refine qJ0 (fun h=>?_) ?_
  ·rw [Nat.eq_of_beq_eq_true h];exact jn2 hM es p
  refine qJ0 (fun h=>?_) ?_
  ·rw [Nat.eq_of_beq_eq_true h];exact s_post hM es p
  refine qJ0 (fun h=>?_) ?_
  ·rw [Nat.eq_of_beq_eq_true h];exact s_term hM es p
  refine qJ0 (fun h=>?_) ?_
  ·rw [Nat.eq_of_beq_eq_true h];exact s_text hM es p
  refine qJ0 (fun h=>?_) ?_
  ·rw [Nat.eq_of_beq_eq_true h];exact jw2 hM es p
  refine qJ0 (fun h=>?_) ?_
  ·rw [Nat.eq_of_beq_eq_true h];exact jr2 hM es p
  refine qJ0 (fun h=>?_) ?_
  ·rw [Nat.eq_of_beq_eq_true h];exact je2 hM es p
  refine qJ0 (fun h=>?_) ?_
  ·rw [Nat.eq_of_beq_eq_true h];exact s_root hM es p
  refine qJ0 (fun h=>?_) ?_
  ·rw [Nat.eq_of_beq_eq_true h];exact jd2 hM es p
  refine qJ0 (fun h=>?_) ?_
  ·rw [Nat.eq_of_beq_eq_true h];exact jp2 hM es p
  refine qJ0 (fun h=>?_) ?_
  ·rw [Nat.eq_of_beq_eq_true h];exact jm2 hM es p
  refine qJ0 (fun h=>?_) ?_
  ·rw [Nat.eq_of_beq_eq_true h];exact s_ifs hM es p
  refine qJ0 (fun h=>?_) ?_
  ·rw [Nat.eq_of_beq_eq_true h];exact jx2 hM es p
  refine qJ0 (fun h=>?_) ?_
  ·rw [Nat.eq_of_beq_eq_true h];exact s_each hM es p
  refine qJ0 (fun h=>?_) ?_
  ·rw [Nat.eq_of_beq_eq_true h];exact s_call hM es p
  refine qJ0 (fun h=>?_) ?_
  ·rw [Nat.eq_of_beq_eq_true h];exact s_pair hM es p
  refine qJ0 (fun h=>?_) ?_
  ·rw [Nat.eq_of_beq_eq_true h];exact jN2 hM es p
  refine qJ0 (fun h=>?_) ?_
  ·rw [Nat.eq_of_beq_eq_true h];exact s_unit hM es p
  refine qJ0 (fun h=>?_) ?_
  ·rw [Nat.eq_of_beq_eq_true h];exact jj2 hM es p
  refine qJ0 (fun h=>?_) ?_
  ·rw [Nat.eq_of_beq_eq_true h];exact jq2 hM es p
  refine qJ0 (fun h=>?_) ?_
  ·rw [Nat.eq_of_beq_eq_true h];exact jo2 hM es p
  refine qJ0 (fun h=>?_) ?_
  ·rw [Nat.eq_of_beq_eq_true h];exact s_pipe hM es p
  exact .inl rfl
 dfn:=by
  intro es q p
  cases q with
  | true=>exact s_defT hM es p
  | false=>exact s_defF hM es p
 rest:=by
  intro es q p
  cases q with
  | true=>exact jz2 hM es p
  | false=>exact jy2 hM es p
 rows:=by
  intro j es a b p
  refine qJ0 (fun h=>?_) ?_
  ·rw [Nat.eq_of_beq_eq_true h];exact jF2 hM es a b p
  refine qJ0 (fun h=>?_) ?_
  ·rw [Nat.eq_of_beq_eq_true h];exact jE2 hM es a b p
  refine qJ0 (fun h=>?_) ?_
  ·rw [Nat.eq_of_beq_eq_true h];exact jD2 hM es a b p
  refine qJ0 (fun h=>?_) ?_
  ·rw [Nat.eq_of_beq_eq_true h];exact jC2 hM es a b p
  refine qJ0 (fun h=>?_) ?_
  ·rw [Nat.eq_of_beq_eq_true h];exact jB2 hM es a b p
  exact .inl rfl
 rowsL:=by
  intro j es a b ver len acc p
  refine qJ0 (fun h=>?_) ?_
  ·rw [Nat.eq_of_beq_eq_true h];exact jK2 hM es a b ver len acc p
  refine qJ0 (fun h=>?_) ?_
  ·rw [Nat.eq_of_beq_eq_true h];exact jJ2 hM es a b ver len acc p
  refine qJ0 (fun h=>?_) ?_
  ·rw [Nat.eq_of_beq_eq_true h];exact jI2 hM es a b ver len acc p
  refine qJ0 (fun h=>?_) ?_
  ·rw [Nat.eq_of_beq_eq_true h];exact jH2 hM es a b ver len acc p
  refine qJ0 (fun h=>?_) ?_
  ·rw [Nat.eq_of_beq_eq_true h];exact jG2 hM es a b ver len acc p
  exact .inl rfl
 expL:=fun es l c n p=>s_expL hM es l c n p
 postL:=fun es n p=>ju2 hM es n p
 textL:=fun es t ver len acc p=>jM2 hM es t ver len acc p
 plainL:=fun es ver len acc p=>js2 hM es ver len acc p
 ifsL:=by
  intro es q ver len acc p
  cases q with
  | true=>exact ji2 hM es ver len acc p
  | false=>exact jh2 hM es ver len acc p
 progL:=fun es ver len acc p=>jv2 hM es ver len acc p
 level:=fun w=>jl2 hM w
 right:=fun w=>jA2 hM w
 side:=fun w=>s_side hM w
 of:=fun kk w=>s_of hM kk w
 change:=fun kk w=>jf2 hM kk w
 word:=fun w=>s_word hM w
 plain:=fun w=>jt2 hM w
 simple:=fun w=>jL2 hM w
 runW:=fun w=>s_runW hM w
 runL:=fun w i=>s_runL hM w i
 part:=fun c=>s_part hM c
 letter:=fun c=>jk2 c
 digit:=fun c=>Yc1 c
 deep:=fun es=>s_deep hM es
 deepL:=fun es m i=>jg2 hM es m i
end
theorem Gb0 (n:Nat):LeF (MF n) (FX (XF n)):=by
 induction n with
 | zero=>constructor <;> intros <;> exact .inl rfl
 | succ n IH=>exact qm2 IH
/-- The longest text. -/
def wid:List (Int×List UInt8)→Nat
 | []=>0
 | t::l=>max t.2.length (wid l)
theorem yC1:∀ (l:List (Int×List UInt8)) (p:Nat) (t:Int×List UInt8),l[p]?=some t→t.2.length≤wid l
 | [],p,t,h=>by rw [List.getElem?_nil] at h;cases h
 | x::l,0,t,h=>by
  cases h
  exact Nat.le_max_left _ _
 | x::l,p+1,t,h=>by
  rw [List.getElem?_cons_succ] at h
  exact Nat.le_trans (yC1 l p t h) (Nat.le_max_right _ _)
structure Items (es:List V) (l:List (Int×List UInt8)):Prop where
 len:es.length=l.length
 small:l.length≤1000000000
 wide:wid l≤9223372036854775807
 ld:∀ i,i<l.length→ldX PP 49 4 es (i*4)
 ldd:∀ i,i<l.length→ldC PP 59 4 es (i*4)
 ldk:∀ i,i<l.length→ldX PP 3 4 es (i*4)
 kind:∀ i (h:i<l.length),gI 4 es (i*4) 0=l[i].1
 text:∀ i (h:i<l.length),gS 4 es (i*4) 1=l[i].2
def za0:Option (Int×List UInt8)→Int×List UInt8
 | some t=>t
 | none=>(0,[])
def isB (s:List UInt8) (t:Option (Int×List UInt8)):Bool:=match t with
 | some (k,w)=>(decide (k=13)||decide (k=3))&&decide (w=s)
 | none=>false
theorem Qy1 {s:List UInt8} {l:List (Int×List UInt8)} {p:Nat} (h:isB s l[p]?=true):p<l.length:=by
 rcases Nat.lt_or_ge p l.length with h1 | h1
 ·exact h1
 ·rw [List.getElem?_eq_none h1] at h;cases h
theorem qR0 {β:Type} {bot:β} {φ:Prop} {x:β} (h:φ):need bot φ x=x:=by unfold need;rw [if_pos h]
section m
variable {es:List V} {l:List (Int×List UInt8)} (I:Items es l)
 include I
theorem Xz0 {m:Nat} (hm:1≤m) (p:Nat):(MF m).tok es p=.ok (za0 l[p]?):=by
 obtain ⟨m,rfl⟩:∃ k,m=k+1:=⟨m-1,by omega⟩
 change QH0 PR.no PR.ok PR.er (MF m) es p=_
 unfold QH0
 have hl:=I.len
 rcases Nat.lt_or_ge p l.length with h | h
 ·have h1:decide ((↑(List.length es):Int)≤(p:Int))=false:=decide_eq_false (by omega)
  rw [h1,cond_false,qR0 (by constructor <;> omega)]
  have h2:Int.toNat (p:Int)=p:=Int.toNat_natCast p
  rw [h2,qR0 (I.ld p h),List.getElem?_eq_getElem h]
  have h3:gI 4 es (Nat.add (p*4) 0) 0=l[p].1:=I.kind p h
  have h4:gS 4 es (Nat.add (p*4) 0) 1=l[p].2:=I.text p h
  rw [h3,h4]
  rfl
 ·have h1:decide ((↑(List.length es):Int)≤(p:Int))=true:=decide_eq_true (by omega)
  rw [h1,List.getElem?_eq_none h]
  rfl
theorem m_is {m:Nat} (hm:2≤m) (s:List UInt8) (p:Nat):(MF m).is es s p=.ok (isB s l[p]?,(p:Int)):=by
 obtain ⟨m,rfl⟩:∃ k,m=k+1:=⟨m-1,by omega⟩
 change Qb0 PR.no PR.ok PR.er (MF m) es s p=_
 unfold Qb0
 rw [Xz0 I (by omega)]
 cases ht:l[p]? with
 | none=>rfl
 | some t =>
  obtain ⟨k,w⟩:=t
  change (bif decide (k=13) then (bif decide (w=s) then PR.ok (true,(p:Int)) else .ok (false,p)) else bif decide (k=3) then (bif decide (w=s) then .ok (true,p) else .ok (false,p)) else .ok (false,p))=.ok ((decide (k=13)||decide (k=3))&&decide (w=s),(p:Int))
  cases decide (k=13) <;> cases decide (k=3) <;> cases decide (w=s) <;> rfl
theorem m_has {m:Nat} (hm:3≤m) (s:List UInt8) (p:Nat):(MF m).has es s p=.ok (isB s l[p]?,bif isB s l[p]? then ((p+1:Nat):Int) else (p:Int)):=by
 obtain ⟨m,rfl⟩:∃ k,m=k+1:=⟨m-1,by omega⟩
 change jX0 PR.no PR.ok PR.er (MF m) es s p=_
 unfold jX0
 rw [m_is I (by omega)]
 change (bif isB s l[p]? then need .no (inI ((p:Int)+1)) (PR.ok (true,(p:Int)+1)) else .ok (false,(p:Int)))=_
 cases hb:isB s l[p]? with
 | false=>rfl
 | true =>
  have h1:=Qy1 hb
  have h2:=I.small
  rw [cond_true,qR0 ⟨by omega,by omega⟩]
  rfl
theorem m_need {m:Nat} (hm:4≤m) (s:List UInt8) (p:Nat):(MF m).need es s p=bif isB s l[p]? then .ok ((p+1:Nat):Int) else .er (p:Int):=by
 obtain ⟨m,rfl⟩:∃ k,m=k+1:=⟨m-1,by omega⟩
 change Qg0 PR.no PR.ok PR.er (MF m) es s p=_
 unfold Qg0
 rw [m_has I (by omega)]
 change (bif isB s l[p]? then PR.ok (bif isB s l[p]? then ((p+1:Nat):Int) else (p:Int)) else .er (bif isB s l[p]? then ((p+1:Nat):Int) else (p:Int)))=_
 cases isB s l[p]? <;> rfl
theorem Jr0 {m:Nat} (hm:2≤m) {c:Int} (hc:c≠0) (p:Nat):(MF m).take es c p=bif sub c l[p]? then .ok ((za0 l[p]?).2,((p+1:Nat):Int)) else .er (p:Int):=by
 obtain ⟨m,rfl⟩:∃ k,m=k+1:=⟨m-1,by omega⟩
 change QE0 PR.no PR.ok PR.er (MF m) es c p=_
 unfold QE0
 rw [Xz0 I (by omega)]
 cases ht:l[p]? with
 | none =>
  change (bif !decide ((0:Int)=c) then PR.er (p:Int) else _)=PR.er (p:Int)
  rw [decide_eq_false (fun h=>hc h.symm)];rfl
 | some t =>
  obtain ⟨k,w⟩:=t
  have h1:p<l.length:=by
   rcases Nat.lt_or_ge p l.length with h1 | h1
   ·exact h1
   ·rw [List.getElem?_eq_none h1] at ht;cases ht
  have h2:=I.small
  change (bif !decide (k=c) then PR.er (p:Int) else need .no (inI ((p:Int)+1)) (.ok (w,(p:Int)+1)))=bif decide (k=c) then .ok (w,((p+1:Nat):Int)) else .er (p:Int)
  rw [qR0 ⟨by omega,by omega⟩]
  cases decide (k=c) <;> rfl
end m
def qB0:PR (Nd×Nat) Nat→PR (Nd×Int) Int
 | .ok a=>.ok (a.1,(a.2:Int))
 | .er e=>.er (e:Int)
 | .no=>.no
def Sim {α ε:Type} (rec:NT→Nat→Option (PR (Nd×Nat) Nat)) (l:List (Int×List UInt8)) (E:PR (Nd×Nat) Nat→PR α ε→Prop) (pg:Pg) (p:Nat) (m:PR α ε):Prop:=∀ r,qt0 rec l pg p=some r→E r m
def je0 (rec:NT→Nat→Option (PR (Nd×Nat) Nat)) (l:List (Int×List UInt8)):Prop:=∀ x p r,rec x p=some r→p≤l.length→match r with
 | .ok a=>p≤a.2∧a.2≤l.length
 | .er e=>p≤e∧e≤l.length
 | .no=>False
theorem GG0 {rec:NT→Nat→Option (PR (Nd×Nat) Nat)} {l:List (Int×List UInt8)} (hr:je0 rec l) (pg:Pg):∀ p r,qt0 rec l pg p=some r→p≤l.length→match r with
 | .ok a=>p≤a.2∧a.2≤l.length
 | .er e=>p≤e∧e≤l.length
 | .no=>False:=by
 induction pg with
 | ret n=>intro p r h hp;cases h;exact ⟨Nat.le_refl _,hp⟩
 | err=>intro p r h hp;cases h;exact ⟨Nat.le_refl _,hp⟩
 | stop=>intro p r h hp;cases h
 | look f IH=>intro p r h hp;exact IH _ p r h hp
 | adv k IH =>
  intro p r h hp
  unfold qt0 at h
  by_cases hl:p<l.length
  ·rw [if_pos hl] at h
   have:=IH (p+1) r h (by omega)
   cases r with
   | ok a=>exact ⟨by omega,this.2⟩
   | er e=>exact ⟨by omega,this.2⟩
   | no=>exact this
  ·rw [if_neg hl] at h;cases h
 | call x f IH =>
  intro p r h hp
  unfold qt0 at h
  cases hx:rec x p with
  | none=>rw [hx] at h;cases h
  | some q =>
   rw [hx] at h
   have h1:=hr x p q hx hp
   cases q with
   | ok a =>
    have:=IH a.1 a.2 r h h1.2
    cases r with
    | ok b=>exact ⟨by omega,this.2⟩
    | er e=>exact ⟨by omega,this.2⟩
    | no=>exact this
   | er e=>cases h;exact h1
   | no=>cases h
theorem qd0 (l:List (Int×List UInt8)) (n:Nat):je0 (qb0 l n) l:=by
 induction n with
 | zero=>intro x p r h;cases h
 | succ n IH=>intro x p r h hp;exact GG0 IH (Pg.body x) p r h hp
section sim
variable {α ε:Type} {rec:NT→Nat→Option (PR (Nd×Nat) Nat)} {l:List (Int×List UInt8)} {E:PR (Nd×Nat) Nat→PR α ε→Prop} {es:List V}
theorem Sim.ret {n:Nd} {p:Nat} {m:PR α ε} (h:E (.ok (n,p)) m):Sim rec l E (.ret n) p m:=fun r hr=>by cases hr;exact h
theorem Sim.err {p:Nat} {m:PR α ε} (h:E (.er p) m):Sim rec l E .err p m:=fun r hr=>by cases hr;exact h
theorem Sim.stop {p:Nat} {m:PR α ε}:Sim rec l E .stop p m:=fun r hr=>by cases hr
theorem Sim.look {f:Option (Int×List UInt8)→Pg} {p:Nat} {m:PR α ε} (h:Sim rec l E (f l[p]?) p m):Sim rec l E (.look f) p m:=h
theorem Sim.adv {k:Pg} {p:Nat} {m:PR α ε} (h:p<l.length→Sim rec l E k (p+1) m):Sim rec l E (.adv k) p m:=fun r hr=>by
 unfold qt0 at hr
 by_cases hl:p<l.length
 ·rw [if_pos hl] at hr;exact h hl r hr
 ·rw [if_neg hl] at hr;cases hr
theorem Sim.need {φ:Prop} {pg:Pg} {p:Nat} {m:PR α ε} (h:φ) (hs:Sim rec l E pg p m):Sim rec l E pg p (need .no φ m):=by rw [qR0 h];exact hs
theorem Sim.cond {b:Bool} {a a':Pg} {p:Nat} {m m':PR α ε} (h:b=true→Sim rec l E a p m) (h':b=false→Sim rec l E a' p m'):Sim rec l E (bif b then a else a') p (bif b then m else m'):=by
 cases b with
 | true=>exact h rfl
 | false=>exact h' rfl
theorem Sim.call {x:NT} {f:Nd→Pg} {p:Nat} {y:PR (Nd×Int) Int} {g:Nd×Int→PR α ε} {g':Int→PR α ε} (hr:je0 rec l) (hp:p≤l.length) (hx:∀ r,rec x p=some r→y=qB0 r) (h:∀ a q,p≤q→q≤l.length→Sim rec l E (f a) q (g (a,(q:Int)))) (h':∀ e:Nat,E (.er e) (g' (e:Int))):Sim rec l E (.call x f) p (PR.bnd .no y g g'):=fun r hrun=>by
 unfold qt0 at hrun
 cases hxe:rec x p with
 | none=>rw [hxe] at hrun;cases hrun
 | some q =>
  rw [hxe] at hrun
  rw [hx q hxe]
  have h1:=hr x p q hxe hp
  cases q with
  | ok a=>exact h a.1 a.2 h1.1 h1.2 r hrun
  | er e=>cases hrun;exact h' e
  | no=>exact h1.elim
variable (I:Items es l) {m:Nat} {p:Nat}
 include I
theorem Sim.tok (hm:1≤m) {pg:Pg} {g:Int×List UInt8→PR α ε} {g':Int→PR α ε} (h:Sim rec l E pg p (g (za0 l[p]?))):Sim rec l E pg p (PR.bnd .no ((MF m).tok es p) g g'):=by
 rw [Xz0 I hm];exact h
theorem Sim.is (hm:2≤m) {s:List UInt8} {f:Bool→Pg} {g:Bool×Int→PR α ε} {g':Int→PR α ε} (h:∀ b,isB s l[p]?=b→Sim rec l E (f b) p (g (b,(p:Int)))):Sim rec l E (Pg.is s f) p (PR.bnd .no ((MF m).is es s p) g g'):=by
 rw [m_is I hm];exact h _ rfl
theorem Sim.has (hm:3≤m) {s:List UInt8} {a b:Pg} {g:Bool×Int→PR α ε} {g':Int→PR α ε} (h:p<l.length→Sim rec l E a (p+1) (g (true,((p+1:Nat):Int)))) (h':isB s l[p]?=false→Sim rec l E b p (g (false,(p:Int)))):Sim rec l E (Pg.has s a b) p (PR.bnd .no ((MF m).has es s p) g g'):=by
 rw [m_has I hm]
 change Sim rec l E (bif isB s l[p]? then .adv a else b) p (g (isB s l[p]?,bif isB s l[p]? then ((p+1:Nat):Int) else (p:Int)))
 cases hb:isB s l[p]? with
 | true=>exact Sim.adv h
 | false=>exact h' hb
theorem Sim.needS (hm:4≤m) {s:List UInt8} {a:Pg} {g:Int→PR α ε} {g':Int→PR α ε} (h:p<l.length→Sim rec l E a (p+1) (g ((p+1:Nat):Int))) (h':E (.er p) (g' (p:Int))):Sim rec l E (Pg.need s a) p (PR.bnd .no ((MF m).need es s p) g g'):=by
 rw [m_need I hm]
 change Sim rec l E (bif isB s l[p]? then .adv a else .err) p _
 cases hb:isB s l[p]? with
 | true=>exact Sim.adv h
 | false=>exact Sim.err h'
theorem Sim.take (hm:2≤m) {c:Int} (hc:c≠0) {f:List UInt8→Pg} {g:List UInt8×Int→PR α ε} {g':Int→PR α ε} (h:∀ w,l[p]?=some (c,w)→p<l.length→Sim rec l E (f w) (p+1) (g (w,((p+1:Nat):Int)))) (h':E (.er p) (g' (p:Int))):Sim rec l E (Pg.take c f) p (PR.bnd .no ((MF m).take es c p) g g'):=by
 rw [Jr0 I hm hc]
 unfold Pg.take
 refine Sim.look ?_
 cases ht:l[p]? with
 | none=>exact Sim.err h'
 | some t =>
  obtain ⟨k,w⟩:=t
  change Sim rec l E (bif decide (k=c) then .adv (f w) else .err) p (PR.bnd .no (bif decide (k=c) then .ok (w,((p+1:Nat):Int)) else .er (p:Int)) g g')
  by_cases hk:k=c
  ·subst hk
   rw [decide_eq_true rfl]
   exact Sim.adv fun hl=>h w ht hl
  ·rw [decide_eq_false hk]
   exact Sim.err h'
end sim
def EN (r:PR (Nd×Nat) Nat) (m:PR (Nd×Int) Int):Prop:=m=qB0 r
def ER (r:PR (Nd×Nat) Nat) (m:PR Rw (Int×Nat)):Prop:=match r with
 | .ok a=>GndR a.1.ks∧a.1.ks.length≤2*a.2+2∧∃ v,m=.ok (a.1.ks,a.1.ks.length,v,(a.2:Int))
 | .er e=>∃ v,m=.er ((e:Int),v)
 | .no=>False
def EK (r:PR (Nd×Nat) Nat) (m:PR ((Nd×Bool)×Int) Int):Prop:=match r with
 | .ok a=>m=.ok ((a.1,decide (a.1.k=4)),(a.2:Int))
 | .er e=>m=.er (e:Int)
 | .no=>False
structure T1 (es:List V) (l:List (Int×List UInt8)) (n:Nat):Prop where
 exp:∀ {m},12*n+wid l+12≤m→∀ L p,p≤l.length→∀ r,qb0 l n (.exp L) p=some r→(MF m).exp es L (p:Nat)=qB0 r
 expL:∀ {m},12*n+wid l+12≤m→∀ L c k p,p≤l.length→∀ r,qb0 l n (.expL L c k) p=some r→(MF m).expL es L c k (p:Nat)=qB0 r
 operand:∀ {m},12*n+wid l+12≤m→∀ p,p≤l.length→∀ r,qb0 l n .operand p=some r→(MF m).N 116 es (p:Nat)=qB0 r
 post:∀ {m},12*n+wid l+12≤m→∀ p,p≤l.length→∀ r,qb0 l n .post p=some r→(MF m).N 113 es (p:Nat)=qB0 r
 postL:∀ {m},12*n+wid l+12≤m→∀ k p,p≤l.length→∀ r,qb0 l n (.postL k) p=some r→(MF m).postL es k (p:Nat)=qB0 r
 term:∀ {m},12*n+wid l+12≤m→∀ p,p≤l.length→∀ r,qb0 l n .term p=some r→(MF m).N 154 es (p:Nat)=qB0 r
 text:∀ {m},12*n+wid l+12≤m→∀ p,p≤l.length→∀ r,qb0 l n .text p=some r→(MF m).N 74 es (p:Nat)=qB0 r
 plain:∀ {m},12*n+wid l+12≤m→∀ p,p≤l.length→∀ r,qb0 l n .plain p=some r→(MF m).N 79 es (p:Nat)=qB0 r
 bring:∀ {m},12*n+wid l+12≤m→∀ p,p≤l.length→∀ r,qb0 l n .bring p=some r→(MF m).N 52 es (p:Nat)=qB0 r
 root:∀ {m},12*n+wid l+12≤m→∀ p,p≤l.length→∀ r,qb0 l n .root p=some r→(MF m).N 42 es (p:Nat)=qB0 r
 array:∀ {m},12*n+wid l+12≤m→∀ p,p≤l.length→∀ r,qb0 l n .array p=some r→(MF m).N 43 es (p:Nat)=qB0 r
 paren:∀ {m},12*n+wid l+12≤m→∀ p,p≤l.length→∀ r,qb0 l n .paren p=some r→(MF m).N 44 es (p:Nat)=qB0 r
 object:∀ {m},12*n+wid l+12≤m→∀ p,p≤l.length→∀ r,qb0 l n .object p=some r→(MF m).N 45 es (p:Nat)=qB0 r
 ifs:∀ {m},12*n+wid l+12≤m→∀ p,p≤l.length→∀ r,qb0 l n .ifs p=some r→(MF m).N 46 es (p:Nat)=qB0 r
 reduce:∀ {m},12*n+wid l+12≤m→∀ p,p≤l.length→∀ r,qb0 l n .reduce p=some r→(MF m).N 47 es (p:Nat)=qB0 r
 each:∀ {m},12*n+wid l+12≤m→∀ p,p≤l.length→∀ r,qb0 l n .each p=some r→(MF m).N 48 es (p:Nat)=qB0 r
 callw:∀ {m},12*n+wid l+12≤m→∀ p,p≤l.length→∀ r,qb0 l n .callw p=some r→(MF m).N 181 es (p:Nat)=qB0 r
 pair:∀ {m},12*n+wid l+12≤m→∀ p,p≤l.length→∀ r,qb0 l n .pair p=some r→(MF m).N 77 es (p:Nat)=qB0 r
 value:∀ {m},12*n+wid l+12≤m→∀ p,p≤l.length→∀ r,qb0 l n .value p=some r→(MF m).N 112 es (p:Nat)=qB0 r
 unit:∀ {m},12*n+wid l+12≤m→∀ p,p≤l.length→∀ r,qb0 l n .unit p=some r→(MF m).N 153 es (p:Nat)=qB0 r
 keyPat:∀ {m},12*n+wid l+12≤m→∀ p,p≤l.length→∀ r,qb0 l n .keyPat p=some r→(MF m).N 156 es (p:Nat)=qB0 r
 pattern:∀ {m},12*n+wid l+12≤m→∀ p,p≤l.length→∀ r,qb0 l n .pattern p=some r→(MF m).N 114 es (p:Nat)=qB0 r
 dfn:∀ {m},12*n+wid l+12≤m→∀ b p,p≤l.length→∀ r,qb0 l n (.dfn b) p=some r→(MF m).dfn es b (p:Nat)=qB0 r
 rest:∀ {m},12*n+wid l+12≤m→∀ b p,p≤l.length→∀ r,qb0 l n (.rest b) p=some r→(MF m).rest es b (p:Nat)=qB0 r
 within:∀ {m},12*n+wid l+12≤m→∀ k d p,p≤l.length→∀ r,qb0 l n (.within k d) p=some r→(MF m).within es k d (p:Nat)=qB0 r
structure T2 (es:List V) (l:List (Int×List UInt8)) (n:Nat):Prop extends T1 es l n where
 textL:∀ {m},12*n+wid l+12≤m→∀ t v len acc p,p≤l.length→len=acc.length→len≤2*p+2→GndR acc→∀ r,qb0 l n (.textL acc) p=some r→ER r ((MF m).textL es t v len acc (p:Nat))
 plainL:∀ {m},12*n+wid l+12≤m→∀ v len acc p,p≤l.length→len=acc.length→len≤2*p+2→GndR acc→∀ r,qb0 l n (.plainL acc) p=some r→ER r ((MF m).plainL es v len acc (p:Nat))
 ifsL:∀ {m},12*n+wid l+12≤m→∀ v len acc p,p≤l.length→len=acc.length→len≤2*p+2→GndR acc→∀ r,qb0 l n (.ifsL acc) p=some r→ER r ((MF m).ifsL es true v len acc (p:Nat))
theorem m_ifsF {es:List V} {m:Nat} (hm:1≤m) (v len:Nat) (acc:List V) (p:Int) (h:GndR acc):(MF m).ifsL es false v len acc p=.ok (acc,len,v,p):=by
 obtain ⟨m,rfl⟩:∃ k,m=k+1:=⟨m-1,by omega⟩
 change jZ0 PR.no PR.ok PR.er (MF m) es v len acc p=_
 unfold jZ0
 rw [qR0 h,qR0 h]
theorem T1.pipe {es:List V} {l:List (Int×List UInt8)} {n:Nat} (T:T1 es l n) {m:Nat} (hm:12*n+wid l+13≤m) (p:Nat) (hp:p≤l.length) (r:PR (Nd×Nat) Nat) (hr:qb0 l n (.exp 1) p=some r):(MF m).N 55 es (p:Nat)=qB0 r:=by
 obtain ⟨m,rfl⟩:∃ k,m=k+1:=⟨m-1,by omega⟩
 change PR.bnd PR.no ((MF m).exp es 1 p) (fun a=>PR.ok (a.1,a.2)) (fun e=>.er e)=_
 rw [T.exp (by omega) 1 p hp r hr]
 cases r <;> rfl
theorem qq0 {n:Nd} {q:Nat}:EN (.ok (n,q)) (.ok (n,(q:Int))):=rfl
theorem qh0 {q:Nat}:EN (.er q) (.er (q:Int)):=rfl
theorem JQ0 {φ:Prop} {r:PR (Nd×Nat) Nat} {m:PR (Nd×Int) Int} (h:φ) (hm:EN r m):EN r (need .no φ m):=by rw [qR0 h];exact hm
theorem Zi0 {q v:Nat}:ER (.er q) (.er ((q:Int),v)):=⟨v,rfl⟩
theorem YI0 {φ:Prop} {r:PR (Nd×Nat) Nat} {m:PR Rw (Int×Nat)} (h:φ) (hm:ER r m):ER r (need .no φ m):=by rw [qR0 h];exact hm
theorem ZW0 {acc:List V} {len v q:Nat} {k:Int} {t:List UInt8} (h:len=acc.length) (hg:GndR acc) (hb:acc.length≤2*q+2):ER (.ok (⟨k,t,acc⟩,q)) (.ok (acc,len,v,(q:Int))):=by subst h;exact ⟨hg,hb,v,rfl⟩
theorem qI0:GndR []:=fun e h=>by cases h
theorem qQ0 {n:Nd} {l:List V} (h:GndR l):GndR (qa0 n::l):=fun e he=>by
 cases he with
 | head=>rfl
 | tail _ h1=>exact h e h1
theorem jl0 {k:Int} {t:List UInt8} {l:List V} (h:GndR l):GndR (nV0 k t::l):=fun e he=>by
 cases he with
 | head=>rfl
 | tail _ h1=>exact h e h1
theorem zG0 {a b:List V} (ha:GndR a) (hb:GndR b):GndR (a++b):=fun e he=>by
 rcases List.mem_append.1 he with h | h
 ·exact ha e h
 ·exact hb e h
theorem jc0 {c:Int} (hc:c≠0) (t:Option (Int×List UInt8)):decide ((za0 t).1=c)=sub c t:=by
 cases t with
 | none=>exact decide_eq_false fun h=>hc h.symm
 | some x=>rfl
theorem jd0 (t:Option (Int×List UInt8)):decide ((za0 t).1=3)=sub 3 t:=jc0 (by decide) t
theorem jI0 (t:Option (Int×List UInt8)):decide ((za0 t).1=4)=sub 4 t:=jc0 (by decide) t
theorem yI0 (t:Option (Int×List UInt8)):decide ((za0 t).1=5)=sub 5 t:=jc0 (by decide) t
theorem jJ0 (t:Option (Int×List UInt8)):decide ((za0 t).1=6)=sub 6 t:=jc0 (by decide) t
theorem yJ0 (t:Option (Int×List UInt8)):decide ((za0 t).1=7)=sub 7 t:=jc0 (by decide) t
theorem jK0 (t:Option (Int×List UInt8)):decide ((za0 t).1=8)=sub 8 t:=jc0 (by decide) t
theorem jL0 (t:Option (Int×List UInt8)):decide ((za0 t).1=9)=sub 9 t:=jc0 (by decide) t
theorem jG0 (t:Option (Int×List UInt8)):decide ((za0 t).1=10)=sub 10 t:=jc0 (by decide) t
theorem yf0 (t:Option (Int×List UInt8)):decide ((za0 t).1=11)=sub 11 t:=jc0 (by decide) t
theorem ys0 (t:Option (Int×List UInt8)):decide ((za0 t).1=12)=sub 12 t:=jc0 (by decide) t
theorem jH0 (t:Option (Int×List UInt8)):decide ((za0 t).1=13)=sub 13 t:=jc0 (by decide) t
theorem Sim.tail {α ε:Type} {rec:NT→Nat→Option (PR (Nd×Nat) Nat)} {l:List (Int×List UInt8)} {E:PR (Nd×Nat) Nat→PR α ε→Prop} {w:List UInt8} {f:List UInt8→Pg} {p:Nat} {m:PR α ε} (h:∀ c v,w=c::v→Sim rec l E (f v) p m):Sim rec l E (Pg.tail w f) p m:=by
 cases w with
 | nil=>exact Sim.stop
 | cons c v=>exact h c v rfl
theorem Sim.atEnd {α ε:Type} {rec:NT→Nat→Option (PR (Nd×Nat) Nat)} {l:List (Int×List UInt8)} {E:PR (Nd×Nat) Nat→PR α ε→Prop} {es:List V} (I:Items es l) {a b:Pg} {p:Nat} {m m':PR α ε} (hp:p≤l.length) (h:p=l.length→Sim rec l E a p m) (h':p<l.length→Sim rec l E b p m'):Sim rec l E (Pg.atEnd a b) p (bif decide ((p:Int)=(↑(List.length es):Int)) then m else m'):=by
 have hl:=I.len
 unfold Pg.atEnd
 refine Sim.look ?_
 rcases Nat.lt_or_ge p l.length with h1 | h1
 ·rw [List.getElem?_eq_getElem h1,decide_eq_false (by omega)]
  exact h' h1
 ·rw [List.getElem?_eq_none h1,decide_eq_true (by omega)]
  exact h (by omega)
theorem zf1 {b:Bool} {x y:Option (Int×Int)} {f:Option (Int×Int)→Int}:f (bif b then x else y)=bif b then f x else f y:=by cases b <;> rfl
theorem Gn0 {b:Bool} {x y:Int}:(PR.ok (bif b then x else y):PR Int Int)=bif b then .ok x else .ok y:=by cases b <;> rfl
def lv1 (o:Option (Int×Int)):Int:=match o with
 | some r=>r.1
 | none=>0
def lv2 (o:Option (Int×Int)):Int:=match o with
 | some r=>r.2
 | none=>0
def lv3 (o:Option (Int×Int)):Int:=match o with
 | some r=>bif decide (r.2=2) then r.1 else r.1+1
 | none=>0
theorem QX1 {m:Nat} (hm:1≤m) (w:List UInt8):(MF m).level w=.ok (lvl w):=by
 obtain ⟨m,rfl⟩:∃ k,m=k+1:=⟨m-1,by omega⟩
 change Qe0 PR.no PR.ok PR.er (MF m) w=.ok (lv1 (ZQ0 w Ys0))
 unfold Qe0 Ys0
 simp only [ZQ0,zf1 (f:=lv1),Gn0]
 rfl
theorem m_side {m:Nat} (hm:1≤m) (w:List UInt8):(MF m).side w=.ok (GN0 w):=by
 obtain ⟨m,rfl⟩:∃ k,m=k+1:=⟨m-1,by omega⟩
 change QC0 PR.no PR.ok PR.er (MF m) w=.ok (lv2 (ZQ0 w Ys0))
 unfold QC0 Ys0
 simp only [ZQ0,zf1 (f:=lv2),Gn0]
 rfl
theorem zi2 {β:Type} {bot x:β} {a:Int} (h:decide ((-9223372036854775808:Int)≤a)=true) (h':decide (a≤(9223372036854775807:Int))=true):need bot ((-9223372036854775808:Int)≤a∧a≤(9223372036854775807:Int)) x=x:=qR0 ⟨of_decide_eq_true h,of_decide_eq_true h'⟩
theorem qI2 {m:Nat} (hm:1≤m) (w:List UInt8):(MF m).right w=.ok (yi1 w):=by
 obtain ⟨m,rfl⟩:∃ k,m=k+1:=⟨m-1,by omega⟩
 change Qz0 PR.no PR.ok PR.er (MF m) w=.ok (lv3 (ZQ0 w Ys0))
 unfold Qz0 Ys0
 simp only [ZQ0,zf1 (f:=lv3),Gn0]
 repeat rw [zi2 (by rfl) (by rfl)]
 rfl
theorem m_of {m:Nat} (hm:2≤m) (t:Option (Int×List UInt8)):(MF m).of (za0 t).1 (za0 t).2=.ok (jy0 t):=by
 obtain ⟨m,rfl⟩:∃ k,m=k+1:=⟨m-1,by omega⟩
 change Qi0 PR.no PR.ok PR.er (MF m) _ _=_
 unfold Qi0
 rw [QX1 (by omega)]
 cases t with
 | none=>rfl
 | some x =>
  obtain ⟨k,w⟩:=x
  change (bif !decide (k=3) then (bif !decide (k=13) then PR.ok [] else bif decide (lvl w=0) then PR.ok [] else .ok w) else bif decide (lvl w=0) then PR.ok [] else .ok w)=.ok (bif decide (k=13)||decide (k=3) then (bif decide (lvl w=0) then [] else w) else [])
  cases decide (k=3) <;> cases decide (k=13) <;> cases decide (lvl w=0) <;> rfl
section lv
variable {α ε:Type} {rec:NT→Nat→Option (PR (Nd×Nat) Nat)} {l:List (Int×List UInt8)} {E:PR (Nd×Nat) Nat→PR α ε→Prop} {m p:Nat} {pg:Pg}
theorem Sim.level (hm:1≤m) {w:List UInt8} {g g':Int→PR α ε} (h:Sim rec l E pg p (g (lvl w))):Sim rec l E pg p (PR.bnd .no ((MF m).level w) g g'):=by rw [QX1 hm];exact h
theorem Sim.right (hm:1≤m) {w:List UInt8} {g g':Int→PR α ε} (h:Sim rec l E pg p (g (yi1 w))):Sim rec l E pg p (PR.bnd .no ((MF m).right w) g g'):=by rw [qI2 hm];exact h
theorem Sim.side (hm:1≤m) {w:List UInt8} {g g':Int→PR α ε} (h:Sim rec l E pg p (g (GN0 w))):Sim rec l E pg p (PR.bnd .no ((MF m).side w) g g'):=by rw [m_side hm];exact h
theorem Sim.of (hm:2≤m) {t:Option (Int×List UInt8)} {g:List UInt8→PR α ε} {g':Int→PR α ε} (h:Sim rec l E pg p (g (jy0 t))):Sim rec l E pg p (PR.bnd .no ((MF m).of (za0 t).1 (za0 t).2) g g'):=by rw [m_of hm];exact h
end lv
theorem QU1:lvl [42]=9:=by rfl
theorem Sim.advI {α ε:Type} {rec:NT→Nat→Option (PR (Nd×Nat) Nat)} {l:List (Int×List UInt8)} {E:PR (Nd×Nat) Nat→PR α ε→Prop} {es:List V} (I:Items es l) {k:Pg} {p:Nat} {m:PR α ε} (h:p<l.length→Sim rec l E k (p+1) m):Sim rec l E (.adv k) p (Go.AM.need .no (inI ((p:Int)+1)) m):=by
 refine Sim.adv fun hl=>?_
 have:=I.small
 rw [qR0 ⟨by omega,by omega⟩]
 exact h hl
theorem qy1 (p:Nat):(p:Int)+1=((p+1:Nat):Int):=rfl
theorem Sim.callR {α ε:Type} {rec:NT→Nat→Option (PR (Nd×Nat) Nat)} {l:List (Int×List UInt8)} {E:PR (Nd×Nat) Nat→PR α ε→Prop} {x:NT} {f:Nd→Pg} {p:Nat} {y:PR Rw (Int×Nat)} {g:Rw→PR α ε} {g':Int×Nat→PR α ε} (hr:je0 rec l) (hp:p≤l.length) (hx:∀ r,rec x p=some r→ER r y) (h:∀ k t acc v q,p≤q→q≤l.length→GndR acc→acc.length≤2*q+2→Sim rec l E (f ⟨k,t,acc⟩) q (g (acc,acc.length,v,(q:Int)))) (h':∀ (e v:Nat),E (.er e) (g' ((e:Int),v))):Sim rec l E (.call x f) p (PR.bnd .no y g g'):=fun r hrun=>by
 unfold qt0 at hrun
 cases hxe:rec x p with
 | none=>rw [hxe] at hrun;cases hrun
 | some q =>
  rw [hxe] at hrun
  have h0:=hx q hxe
  have h1:=hr x p q hxe hp
  cases q with
  | ok a =>
   obtain ⟨hg,hb,v,rfl⟩:=h0
   exact h a.1.k a.1.t a.1.ks v a.2 h1.1 h1.2 hg hb r hrun
  | er e =>
   obtain ⟨v,rfl⟩:=h0
   cases hrun;exact h' e v
  | no=>exact h1.elim
theorem Sim.condN {α ε:Type} {rec:NT→Nat→Option (PR (Nd×Nat) Nat)} {l:List (Int×List UInt8)} {E:PR (Nd×Nat) Nat→PR α ε→Prop} {b:Bool} {a a':Pg} {p:Nat} {m m':PR α ε} (h:b=true→Sim rec l E a p m) (h':b=false→Sim rec l E a' p m'):Sim rec l E (bif b then a else a') p (bif !b then m' else m):=by
 cases b with
 | true=>exact h rfl
 | false=>exact h' rfl
theorem Sim.ifsF {α ε:Type} {rec:NT→Nat→Option (PR (Nd×Nat) Nat)} {l:List (Int×List UInt8)} {E:PR (Nd×Nat) Nat→PR α ε→Prop} {es:List V} {m:Nat} (hm:1≤m) {pg:Pg} {p v len:Nat} {acc:List V} {g:Rw→PR α ε} {g':Int×Nat→PR α ε} (hg:GndR acc) (h:Sim rec l E pg p (g (acc,len,v,(p:Int)))):Sim rec l E pg p (PR.bnd .no ((MF m).ifsL es false v len acc p) g g'):=by
 rw [m_ifsF hm v len acc p hg];exact h
section fns
variable {es:List V} {l:List (Int×List UInt8)} {n m p:Nat} (I:Items es l) (T:T1 es l n) (hm:12*n+wid l+23≤m) (hp:p≤l.length)
 include I T hm hp
theorem t_exp (L:Int):Sim (qb0 l n) l EN (Pg.body (.exp L)) p (jV0 .no .ok .er (MF m) es L p):=by
 have _:=I
 simp only [Pg.body,Pg.call1]
 unfold jV0
 (repeat' first | exact qq0 | exact qh0 | assumption | (refine Sim.call (qd0 _ _) ?_ ?_ (fun _ _ _ _=>?_) (fun _=>?_) <;> try dsimp only [cond_true,cond_false]) | refine Sim.ret ?_ | exact T1.expL T (by omega) _ _ _ _ (by omega) | exact T1.operand T (by omega) _ (by omega))
theorem QG2:Sim (qb0 l n) l EN (Pg.body .array) p (jN0 .no .ok .er (MF m) es p):=by
 simp only [Pg.body]
 unfold jN0
 (repeat' first | exact qq0 | exact qh0 | assumption | (refine Sim.has I ?_ (fun _=>?_) (fun _=>?_) <;> try dsimp only [cond_true,cond_false]) | (refine Sim.needS I ?_ (fun _=>?_) ?_ <;> try dsimp only [cond_true,cond_false]) | (refine Sim.call (qd0 _ _) ?_ ?_ (fun _ _ _ _=>?_) (fun _=>?_) <;> try dsimp only [cond_true,cond_false]) | refine Sim.ret ?_ | exact T1.pipe T (by omega) _ (by omega) | omega)
theorem QN2:Sim (qb0 l n) l EN (Pg.body .paren) p (Qm0 .no .ok .er (MF m) es p):=by
 simp only [Pg.body]
 unfold Qm0
 (repeat' first | exact qq0 | exact qh0 | assumption | (refine Sim.needS I ?_ (fun _=>?_) ?_ <;> try dsimp only [cond_true,cond_false]) | (refine Sim.call (qd0 _ _) ?_ ?_ (fun _ _ _ _=>?_) (fun _=>?_) <;> try dsimp only [cond_true,cond_false]) | refine Sim.ret ?_ | exact T1.pipe T (by omega) _ (by omega) | omega)
theorem t_unit:Sim (qb0 l n) l EN (Pg.body .unit) p (QI0 .no .ok .er (MF m) es p):=by
 simp only [Pg.body,Pg.call1]
 unfold QI0
 (repeat' first | exact qq0 | exact qh0 | assumption | (refine Sim.has I ?_ (fun _=>?_) (fun _=>?_) <;> try dsimp only [cond_true,cond_false]) | (refine Sim.call (qd0 _ _) ?_ ?_ (fun _ _ _ _=>?_) (fun _=>?_) <;> try dsimp only [cond_true,cond_false]) | refine Sim.ret ?_ | exact T1.post T (by omega) _ (by omega) | exact T1.unit T (by omega) _ (by omega) | omega)
theorem QY2:Sim (qb0 l n) l EN (Pg.body .value) p (QJ0 .no .ok .er (MF m) es p):=by
 simp only [Pg.body]
 unfold QJ0
 (repeat' first | exact qq0 | exact qh0 | assumption | (refine Sim.has I ?_ (fun _=>?_) (fun _=>?_) <;> try dsimp only [cond_true,cond_false]) | (refine Sim.call (qd0 _ _) ?_ ?_ (fun _ _ _ _=>?_) (fun _=>?_) <;> try dsimp only [cond_true,cond_false]) | refine Sim.need ?_ ?_ | refine Sim.ret ?_ | exact T1.value T (by omega) _ (by omega) | exact T1.unit T (by omega) _ (by omega) | omega | exact rfl)
theorem t_rest (b:Bool):Sim (qb0 l n) l EN (Pg.body (.rest b)) p (bif b then Qy0 .no .ok .er (MF m) es p else Qx0 .no .ok .er (MF m) es p):=by
 cases b with
 | false =>
  simp only [Pg.body,Pg.call1,cond_false]
  unfold Qx0
  (repeat' first | exact qq0 | exact qh0 | assumption | (refine Sim.call (qd0 _ _) ?_ ?_ (fun _ _ _ _=>?_) (fun _=>?_) <;> try dsimp only [cond_true,cond_false]) | refine Sim.ret ?_ | exact T1.pipe T (by omega) _ (by omega))
 | true =>
  simp only [Pg.body,Pg.call1,cond_true]
  unfold Qy0
  (repeat' first | exact qq0 | exact qh0 | assumption | (refine Sim.has I ?_ (fun _=>?_) (fun _=>?_) <;> try dsimp only [cond_true,cond_false]) | (refine Sim.call (qd0 _ _) ?_ ?_ (fun _ _ _ _=>?_) (fun _=>?_) <;> try dsimp only [cond_true,cond_false]) | (refine Sim.atEnd I ?_ (fun _=>?_) (fun _=>?_) <;> try dsimp only [cond_true,cond_false]) | refine Sim.ret ?_ | exact T1.pipe T (by omega) _ (by omega) | exact T1.dfn T (by omega) _ _ (by omega) | omega)
theorem QZ2 (k:Nd) (d:List UInt8):Sim (qb0 l n) l EN (Pg.body (.within k d)) p (QK0 .no .ok .er (MF m) es k d p):=by
 have _:=hp
 simp only [Pg.body]
 unfold QK0
 (repeat' first | exact qq0 | exact qh0 | assumption | (refine Sim.has I ?_ (fun _=>?_) (fun _=>?_) <;> try dsimp only [cond_true,cond_false]) | (refine Sim.needS I ?_ (fun _=>?_) ?_ <;> try dsimp only [cond_true,cond_false]) | (refine Sim.is I ?_ (fun b _=>?_);rotate_left;cases b <;> try dsimp only [cond_true,cond_false]) | (refine Sim.call (qd0 _ _) ?_ ?_ (fun _ _ _ _=>?_) (fun _=>?_) <;> try dsimp only [cond_true,cond_false]) | refine Sim.look ?_ | refine Sim.cond (fun _=>?_) (fun _=>?_) | refine Sim.need ?_ ?_ | refine Sim.ret ?_ | exact T1.pipe T (by omega) _ (by omega) | refine And.intro ?_ ?_ | omega)
theorem t_post:Sim (qb0 l n) l EN (Pg.body .post) p (Qs0 .no .ok .er (MF m) es p):=by
 have _:=I
 simp only [Pg.body,Pg.call1]
 unfold Qs0
 (repeat' first | exact qq0 | exact qh0 | assumption | (refine Sim.call (qd0 _ _) ?_ ?_ (fun _ _ _ _=>?_) (fun _=>?_) <;> try dsimp only [cond_true,cond_false]) | refine Sim.ret ?_ | exact T1.postL T (by omega) _ _ (by omega) | exact T1.term T (by omega) _ (by omega))
theorem QU2:Sim (qb0 l n) l EN (Pg.body .reduce) p (Qw0 .no .ok .er (MF m) es p):=by
 simp only [Pg.body,Pg.source]
 unfold Qw0
 (repeat' first | exact qq0 | exact qh0 | with_reducible exact rfl | assumption | (refine Sim.needS I ?_ (fun _=>?_) ?_ <;> try dsimp only [cond_true,cond_false]) | (refine Sim.call (qd0 _ _) ?_ ?_ (fun _ _ _ _=>?_) (fun _=>?_) <;> try dsimp only [cond_true,cond_false]) | refine Sim.look ?_ | refine Sim.need ?_ ?_ | refine Sim.ret ?_ | exact T1.pipe T (by omega) _ (by omega) | exact T1.post T (by omega) _ (by omega) | exact T1.pattern T (by omega) _ (by omega) | refine And.intro ?_ ?_ | exact List.cons_ne_nil _ _ | exact qI0 | refine qQ0 ?_ | omega | exact rfl)
theorem t_each:Sim (qb0 l n) l EN (Pg.body .each) p (jU0 .no .ok .er (MF m) es p):=by
 simp only [Pg.body,Pg.source]
 unfold jU0
 (repeat' first | exact qq0 | exact qh0 | with_reducible exact rfl | assumption | (refine Sim.has I ?_ (fun _=>?_) (fun _=>?_) <;> try dsimp only [cond_true,cond_false]) | (refine Sim.needS I ?_ (fun _=>?_) ?_ <;> try dsimp only [cond_true,cond_false]) | (refine Sim.call (qd0 _ _) ?_ ?_ (fun _ _ _ _=>?_) (fun _=>?_) <;> try dsimp only [cond_true,cond_false]) | refine Sim.look ?_ | refine Sim.need ?_ ?_ | refine Sim.ret ?_ | exact T1.pipe T (by omega) _ (by omega) | exact T1.post T (by omega) _ (by omega) | exact T1.pattern T (by omega) _ (by omega) | refine And.intro ?_ ?_ | exact List.cons_ne_nil _ _ | exact qI0 | refine qQ0 ?_ | omega | exact rfl)
theorem QR2 (k:Nd):Sim (qb0 l n) l EN (Pg.body (.postL k)) p (Qt0 .no .ok .er (MF m) es k p):=by
 simp only [Pg.body,Pg.call1]
 unfold Qt0
 (repeat' first | exact qq0 | exact qh0 | assumption | (refine Sim.has I ?_ (fun _=>?_) (fun _=>?_) <;> try dsimp only [cond_true,cond_false]) | (refine Sim.take I ?_ (by decide) (fun _ _ _=>?_) ?_ <;> try dsimp only [cond_true,cond_false]) | (refine Sim.is I ?_ (fun b _=>?_);rotate_left;cases b <;> try dsimp only [cond_true,cond_false]) | (refine Sim.call (qd0 _ _) ?_ ?_ (fun _ _ _ _=>?_) (fun _=>?_) <;> try dsimp only [cond_true,cond_false]) | (refine Sim.tail (fun c v hw=>?_);subst hw;try dsimp only [List.drop]) | refine Sim.look ?_ | (refine Sim.tok I ?_ ?_;rotate_left;try simp only [jI0]) | refine Sim.cond (fun _=>?_) (fun _=>?_) | refine Sim.need ?_ ?_ | refine JQ0 ?_ ?_ | refine Sim.ret ?_ | exact T1.postL T (by omega) _ _ (by omega) | exact T1.within T (by omega) _ _ _ (by omega) | exact T1.text T (by omega) _ (by omega) | refine And.intro ?_ ?_ | omega | (simp only [List.length_cons];omega) | exact rfl)
theorem QL2:Sim (qb0 l n) l EN (Pg.body .operand) p (Qj0 .no .ok .er (MF m) es p):=by
 simp only [Pg.body,Pg.call1]
 unfold Qj0
 (repeat' first | exact qq0 | exact qh0 | with_reducible exact rfl | assumption | (refine Sim.has I ?_ (fun _=>?_) (fun _=>?_) <;> try dsimp only [cond_true,cond_false]) | (refine Sim.needS I ?_ (fun _=>?_) ?_ <;> try dsimp only [cond_true,cond_false]) | (refine Sim.take I ?_ (by decide) (fun _ _ _=>?_) ?_ <;> try dsimp only [cond_true,cond_false]) | (refine Sim.call (qd0 _ _) ?_ ?_ (fun _ _ _ _=>?_) (fun _=>?_) <;> try dsimp only [cond_true,cond_false]) | (refine Sim.tail (fun c v hw=>?_);subst hw;try dsimp only [List.drop]) | refine Sim.look ?_ | (refine Sim.level ?_ ?_ <;> try simp only [QU1]) | refine Sim.need ?_ ?_ | refine Sim.ret ?_ | exact T1.pipe T (by omega) _ (by omega) | exact T1.exp T (by omega) _ _ (by omega) | exact T1.dfn T (by omega) _ _ (by omega) | exact T1.post T (by omega) _ (by omega) | exact T1.pattern T (by omega) _ (by omega) | refine And.intro ?_ ?_ | exact List.cons_ne_nil _ _ | exact qI0 | refine qQ0 ?_ | omega | (simp only [List.length_cons];omega) | exact rfl)
theorem t_expL (L c:Int) (k:Nd):Sim (qb0 l n) l EN (Pg.body (.expL L c k)) p (jW0 .no .ok .er (MF m) es L c k p):=by
 have _:=hp
 simp only [Pg.body,Pg.call1]
 unfold jW0
 (repeat' first | exact qq0 | exact qh0 | assumption | (refine Sim.call (qd0 _ _) ?_ ?_ (fun _ _ _ _=>?_) (fun _=>?_) <;> try dsimp only [cond_true,cond_false]) | refine Sim.look ?_ | (refine Sim.level ?_ ?_ <;> try simp only [QU1]) | (refine Sim.right ?_ ?_ <;> try dsimp only) | (refine Sim.side ?_ ?_ <;> try dsimp only) | (refine Sim.of ?_ ?_ <;> try dsimp only) | (refine Sim.tok I ?_ ?_;rotate_left;try simp only [jd0,jI0,yI0,jJ0,yJ0,jK0,jL0,jG0,yf0,ys0,jH0]) | refine Sim.cond (fun _=>?_) (fun _=>?_) | (refine Sim.advI I (fun _=>?_);try simp only [qy1]) | refine Sim.need ?_ ?_ | refine Sim.ret ?_ | refine Sim.err ?_ | exact T1.exp T (by omega) _ _ (by omega) | omega | exact rfl)
 generalize decide (GN0 (jy0 l[p]?)=0)=b
 cases b <;> dsimp only [cond_true,cond_false] <;> (repeat' first | exact qq0 | exact qh0 | assumption | (refine Sim.call (qd0 _ _) ?_ ?_ (fun _ _ _ _=>?_) (fun _=>?_) <;> try dsimp only [cond_true,cond_false]) | refine Sim.ret ?_ | exact T1.expL T (by omega) _ _ _ _ (by omega))
theorem t_root:Sim (qb0 l n) l EN (Pg.body .root) p (QA0 .no .ok .er (MF m) es p):=by
 simp only [Pg.body]
 unfold QA0
 refine Sim.look (Sim.tok I (by omega) ?_)
 simp only [yJ0,ys0]
 generalize sub 7 l[p]?=x
 generalize sub 12 l[p]?=y
 cases x <;> cases y <;> simp only [cond_true,cond_false,Bool.not_true,Bool.not_false,Bool.or_true,Bool.or_false] <;> (repeat' first | exact qq0 | exact qh0 | assumption | (refine Sim.call (qd0 _ _) ?_ ?_ (fun _ _ _ _=>?_) (fun _=>?_) <;> try dsimp only [cond_true,cond_false]) | refine Sim.ret ?_ | exact T1.text T (by omega) _ (by omega))
end fns
section fns2
variable {es:List V} {l:List (Int×List UInt8)} {n m p:Nat} (I:Items es l) (T2':T2 es l n) (hm:12*n+wid l+23≤m) (hp:p≤l.length)
 include I T2' hm hp
theorem QX2 (t:List UInt8) (v len:Nat) (acc:List V) (hl:len=acc.length) (hb:len≤2*p+2) (hg:GndR acc):Sim (qb0 l n) l ER (Pg.body (.textL acc)) p (QG0 .no .ok .er (MF m) es t v len acc p):=by
 have _:=hp
 have T:=T2'.toT1
 have hs:=I.small
 simp only [Pg.body,Pg.call1]
 unfold QG0
 refine Sim.look (Sim.tok I (by omega) ?_)
 simp only [yf0]
 (repeat' first | exact trivial | refine T2.textL T2' ?_ _ _ _ _ _ ?_ ?_ ?_ ?_ | exact Zi0 | with_reducible exact rfl | assumption | (refine Sim.take I ?_ (by decide) (fun _ _ _=>?_) ?_ <;> try dsimp only [cond_true,cond_false]) | (refine Sim.call (qd0 _ _) ?_ ?_ (fun _ _ _ _=>?_) (fun _=>?_) <;> try dsimp only [cond_true,cond_false]) | refine Sim.look ?_ | (refine Sim.tok I ?_ ?_;rotate_left;try simp only [jK0]) | (refine Sim.condN (fun _=>?_) (fun _=>?_)) | refine Sim.cond (fun _=>?_) (fun _=>?_) | refine Sim.need ?_ ?_ | refine YI0 ?_ ?_ | refine ZW0 ?_ ?_ ?_ | (refine Sim.callR (qd0 _ _) ?_ ?_ (fun _ _ _ _ _ _ _ _ _=>?_) (fun _ _=>?_) <;> try dsimp only [cond_true,cond_false]) | refine Sim.ret ?_ | exact T1.pipe T (by omega) _ (by omega) | refine And.intro ?_ ?_ | exact List.cons_ne_nil _ _ | exact qI0 | refine qQ0 ?_ | refine jl0 ?_ | refine zG0 ?_ ?_ | omega | (simp only [List.length_append,List.length_cons,List.length_nil];omega) | exact rfl)
theorem QQ2 (v len:Nat) (acc:List V) (hl:len=acc.length) (hb:len≤2*p+2) (hg:GndR acc):Sim (qb0 l n) l ER (Pg.body (.plainL acc)) p (Qq0 .no .ok .er (MF m) es v len acc p):=by
 have _:=hp
 have T:=T2'.toT1
 have hs:=I.small
 simp only [Pg.body,Pg.call1]
 unfold Qq0
 (repeat' first | exact trivial | refine T2.plainL T2' ?_ _ _ _ _ ?_ ?_ ?_ ?_ | exact Zi0 | with_reducible exact rfl | assumption | (refine Sim.take I ?_ (by decide) (fun _ _ _=>?_) ?_ <;> try dsimp only [cond_true,cond_false]) | refine Sim.look ?_ | (refine Sim.tok I ?_ ?_;rotate_left;try simp only [jK0]) | refine Sim.cond (fun _=>?_) (fun _=>?_) | refine Sim.need ?_ ?_ | refine YI0 ?_ ?_ | refine ZW0 ?_ ?_ ?_ | (refine Sim.callR (qd0 _ _) ?_ ?_ (fun _ _ _ _ _ _ _ _ _=>?_) (fun _ _=>?_) <;> try dsimp only [cond_true,cond_false]) | refine Sim.ret ?_ | refine And.intro ?_ ?_ | exact List.cons_ne_nil _ _ | exact qI0 | refine jl0 ?_ | refine zG0 ?_ ?_ | omega | (simp only [List.length_append,List.length_cons,List.length_nil];omega) | exact rfl)
theorem t_ifsL (v len:Nat) (acc:List V) (hl:len=acc.length) (hb:len≤2*p+2) (hg:GndR acc):Sim (qb0 l n) l ER (Pg.body (.ifsL acc)) p (Qa0 .no .ok .er (MF m) es v len acc p):=by
 have T:=T2'.toT1
 have hs:=I.small
 simp only [Pg.body,Pg.call1]
 unfold Qa0
 (repeat' first | refine T2.ifsL T2' ?_ _ _ _ _ ?_ ?_ ?_ ?_ | (refine Sim.ifsF ?_ ?_ ?_ <;> try dsimp only) | exact Zi0 | with_reducible exact rfl | assumption | (refine Sim.has I ?_ (fun _=>?_) (fun _=>?_) <;> try dsimp only [cond_true,cond_false]) | (refine Sim.needS I ?_ (fun _=>?_) ?_ <;> try dsimp only [cond_true,cond_false]) | (refine Sim.call (qd0 _ _) ?_ ?_ (fun _ _ _ _=>?_) (fun _=>?_) <;> try dsimp only [cond_true,cond_false]) | refine Sim.look ?_ | refine Sim.need ?_ ?_ | refine YI0 ?_ ?_ | refine ZW0 ?_ ?_ ?_ | (refine Sim.callR (qd0 _ _) ?_ ?_ (fun _ _ _ _ _ _ _ _ _=>?_) (fun _ _=>?_) <;> try dsimp only [cond_true,cond_false]) | refine Sim.ret ?_ | exact T1.pipe T (by omega) _ (by omega) | refine And.intro ?_ ?_ | exact List.cons_ne_nil _ _ | exact qI0 | refine qQ0 ?_ | refine zG0 ?_ ?_ | omega | (simp only [List.length_append,List.length_cons,List.length_nil];omega) | exact rfl)
end fns2
/-- More calls, no other result. -/
theorem GF0 {rec rec':NT→Nat→Option (PR (Nd×Nat) Nat)} {l:List (Int×List UInt8)} (h:∀ x p r,rec x p=some r→rec' x p=some r) (pg:Pg):∀ p r,qt0 rec l pg p=some r→qt0 rec' l pg p=some r:=by
 induction pg with
 | ret n=>intro p r hr;exact hr
 | err=>intro p r hr;exact hr
 | stop=>intro p r hr;cases hr
 | look f IH=>intro p r hr;exact IH _ p r hr
 | adv k IH =>
  intro p r hr
  unfold qt0 at hr ⊢
  by_cases hl:p<l.length
  ·rw [if_pos hl] at hr ⊢;exact IH _ r hr
  ·rw [if_neg hl] at hr;cases hr
 | call x f IH =>
  intro p r hr
  unfold qt0 at hr ⊢
  cases hx:rec x p with
  | none=>rw [hx] at hr;cases hr
  | some q =>
   rw [h x p q hx]
   rw [hx] at hr
   cases q with
   | ok a=>exact IH a.1 a.2 r hr
   | er e=>exact hr
   | no=>cases hr
theorem ZU1 (l:List (Int×List UInt8)) (n:Nat):∀ x p r,qb0 l n x p=some r→qb0 l (n+1) x p=some r:=by
 induction n with
 | zero=>intro x p r h;cases h
 | succ n IH=>intro x p r h;exact GF0 IH (Pg.body x) p r h
def Pg.bind (g:Nd→Pg):Pg→Pg
 | .ret n=>g n
 | .err=>.err
 | .stop=>.stop
 | .look f=>.look fun t=>(f t).bind g
 | .adv k=>.adv (k.bind g)
 | .call x f=>.call x fun n=>(f n).bind g
theorem yR2 {rec:NT→Nat→Option (PR (Nd×Nat) Nat)} {l:List (Int×List UInt8)} (g:Nd→Pg) (pg:Pg):∀ p,qt0 rec l (pg.bind g) p=match qt0 rec l pg p with
 | some (.ok a)=>qt0 rec l (g a.1) a.2
 | some (.er e)=>some (.er e)
 | _=>none:=by
 induction pg with
 | ret n=>intro p;rfl
 | err=>intro p;rfl
 | stop=>intro p;rfl
 | look f IH=>intro p;exact IH _ p
 | adv k IH =>
  intro p
  unfold Pg.bind
  rw [qt0,qt0]
  by_cases hl:p<l.length
  ·rw [if_pos hl,if_pos hl];exact IH (p+1)
  ·rw [if_neg hl,if_neg hl]
 | call x f IH =>
  intro p
  unfold Pg.bind
  rw [qt0,qt0]
  cases hx:rec x p with
  | none=>rfl
  | some q =>
   cases q with
   | ok a=>exact IH a.1 a.2
   | er e=>rfl
   | no=>rfl
theorem Sim.inl {α ε:Type} {l:List (Int×List UInt8)} {E:PR (Nd×Nat) Nat→PR α ε→Prop} {n p:Nat} {x:NT} {f:Nd→Pg} {m:PR α ε} (h:Sim (qb0 l n) l E ((Pg.body x).bind f) p m):Sim (qb0 l n) l E (.call x f) p m:=fun r hr=>by
 refine h r ?_
 rw [yR2]
 unfold qt0 at hr
 cases n with
 | zero=>cases hr
 | succ n =>
  cases hx:qb0 l (n+1) x p with
  | none=>rw [hx] at hr;cases hr
  | some q =>
   rw [hx] at hr
   have h1:qt0 (qb0 l (n+1)) l (Pg.body x) p=some q:=GF0 (ZU1 l n) _ p q hx
   rw [h1]
   exact hr
theorem jg0 {b:Bool} {x y:Pg} {g:Nd→Pg}:(bif b then x else y).bind g=bif b then x.bind g else y.bind g:=by cases b <;> rfl
theorem yT1 {s:List UInt8} {x y:Pg} {g:Nd→Pg}:(Pg.has s x y).bind g=Pg.has s (x.bind g) (y.bind g):=by
 unfold Pg.has Pg.is
 change Pg.look _=Pg.look _
 congr 1
 funext t
 exact jg0
theorem yU1 {s:List UInt8} {x:Pg} {g:Nd→Pg}:(Pg.need s x).bind g=Pg.need s (x.bind g):=by
 unfold Pg.need Pg.is
 change Pg.look _=Pg.look _
 congr 1
 funext t
 exact jg0
theorem Jo1 {s:List UInt8} {f:Bool→Pg} {g:Nd→Pg}:(Pg.is s f).bind g=Pg.is s fun b=>(f b).bind g:=rfl
theorem YM0 {c:Int} {f:List UInt8→Pg} {g:Nd→Pg}:(Pg.take c f).bind g=Pg.take c fun w=>(f w).bind g:=by
 unfold Pg.take
 change Pg.look _=Pg.look _
 congr 1
 funext t
 cases t with
 | none=>rfl
 | some t=>exact jg0
section fns3
variable {es:List V} {l:List (Int×List UInt8)} {n m p:Nat} (I:Items es l) (U:T2 es l n) (hm:12*n+wid l+23≤m) (hp:p≤l.length)
 include I U hm hp
theorem QP2:Sim (qb0 l n) l EN (Pg.body .plain) p (Qp0 .no .ok .er (MF m) es p):=by
 have _:=hp
 have T:=U.toT1
 have hs:=I.small
 simp only [Pg.body]
 unfold Qp0
 refine Sim.take I (by omega) (by decide) (fun w _ _=>?_) qh0
 refine Sim.inl ?_
 simp only [Pg.body,Pg.call1,Pg.bind,jg0,YM0]
 (repeat' first | exact qq0 | exact trivial | refine T2.plainL U ?_ _ _ _ _ ?_ ?_ ?_ ?_ | exact qh0 | with_reducible exact rfl | assumption | (refine Sim.take I ?_ (by decide) (fun _ _ _=>?_) ?_ <;> try dsimp only [cond_true,cond_false]) | refine Sim.look ?_ | (refine Sim.tok I ?_ ?_;rotate_left;try simp only [jK0]) | refine Sim.cond (fun _=>?_) (fun _=>?_) | refine Sim.need ?_ ?_ | (refine Sim.callR (qd0 _ _) ?_ ?_ (fun _ _ _ _ _ _ _ _ _=>?_) (fun _ _=>?_) <;> try dsimp only [cond_true,cond_false]) | refine Sim.ret ?_ | refine And.intro ?_ ?_ | exact List.cons_ne_nil _ _ | exact qI0 | refine jl0 ?_ | omega | (simp only [List.length_append,List.length_cons,List.length_nil];done) | exact rfl)
theorem t_ifs:Sim (qb0 l n) l EN (Pg.body .ifs) p (jY0 .no .ok .er (MF m) es p):=by
 have T:=U.toT1
 have hs:=I.small
 simp only [Pg.body]
 unfold jY0
 refine Sim.inl ?_
 simp only [Pg.body,Pg.call1,Pg.bind,yU1,yT1]
 (repeat' first | exact qq0 | exact trivial | refine T2.ifsL U ?_ _ _ _ _ ?_ ?_ ?_ ?_ | (refine Sim.ifsF ?_ ?_ ?_ <;> try dsimp only) | exact qh0 | with_reducible exact rfl | assumption | (refine Sim.has I ?_ (fun _=>?_) (fun _=>?_) <;> try dsimp only [cond_true,cond_false]) | (refine Sim.needS I ?_ (fun _=>?_) ?_ <;> try dsimp only [cond_true,cond_false]) | (refine Sim.call (qd0 _ _) ?_ ?_ (fun _ _ _ _=>?_) (fun _=>?_) <;> try dsimp only [cond_true,cond_false]) | refine Sim.look ?_ | refine Sim.need ?_ ?_ | refine JQ0 ?_ ?_ | (refine Sim.callR (qd0 _ _) ?_ ?_ (fun _ _ _ _ _ _ _ _ _=>?_) (fun _ _=>?_) <;> try dsimp only [cond_true,cond_false]) | refine Sim.ret ?_ | exact T1.pipe T (by omega) _ (by omega) | refine And.intro ?_ ?_ | exact List.cons_ne_nil _ _ | exact qI0 | refine qQ0 ?_ | refine zG0 ?_ ?_ | omega | (simp only [List.length_append,List.length_cons,List.length_nil];done) | (simp only [List.length_cons,List.length_nil];omega) | exact rfl)
theorem t_text:Sim (qb0 l n) l EN (Pg.body .text) p (yO0 .no .ok .er (MF m) es p):=by
 have _:=hp
 have T:=U.toT1
 have hs:=I.small
 simp only [Pg.body,Pg.textQ]
 unfold yO0
 refine Sim.look (Sim.tok I (by omega) ?_)
 simp only [ys0]
 refine Sim.cond (fun _=>?_) (fun _=>?_)
 ·refine Sim.take I (by omega) (by decide) (fun w _ _=>?_) qh0
  refine Sim.take I (by omega) (by decide) (fun _ _ _=>?_) qh0
  refine Sim.inl ?_
  simp only [Pg.body,Pg.call1,Pg.bind,jg0,YM0]
  refine Sim.look (Sim.tok I (by omega) ?_)
  simp only [yf0]
  (repeat' first | exact qq0 | exact trivial | refine T2.textL U ?_ _ _ _ _ _ ?_ ?_ ?_ ?_ | exact qh0 | with_reducible exact rfl | assumption | (refine Sim.take I ?_ (by decide) (fun _ _ _=>?_) ?_ <;> try dsimp only [cond_true,cond_false]) | (refine Sim.call (qd0 _ _) ?_ ?_ (fun _ _ _ _=>?_) (fun _=>?_) <;> try dsimp only [cond_true,cond_false]) | refine Sim.look ?_ | (refine Sim.tok I ?_ ?_;rotate_left;try simp only [jK0]) | (refine Sim.condN (fun _=>?_) (fun _=>?_)) | refine Sim.cond (fun _=>?_) (fun _=>?_) | refine Sim.need ?_ ?_ | refine JQ0 ?_ ?_ | (refine Sim.callR (qd0 _ _) ?_ ?_ (fun _ _ _ _ _ _ _ _ _=>?_) (fun _ _=>?_) <;> try dsimp only [cond_true,cond_false]) | refine Sim.ret ?_ | exact T1.pipe T (by omega) _ (by omega) | refine And.intro ?_ ?_ | exact List.cons_ne_nil _ _ | exact qI0 | refine qQ0 ?_ | refine jl0 ?_ | omega | (simp only [List.length_append,List.length_cons,List.length_nil];done) | exact rfl)
 ·refine Sim.take I (by omega) (by decide) (fun _ _ _=>?_) qh0
  refine Sim.inl ?_
  simp only [Pg.body,Pg.call1,Pg.bind,jg0,YM0]
  refine Sim.look (Sim.tok I (by omega) ?_)
  simp only [yf0]
  (repeat' first | exact qq0 | exact trivial | refine T2.textL U ?_ _ _ _ _ _ ?_ ?_ ?_ ?_ | exact qh0 | with_reducible exact rfl | assumption | (refine Sim.take I ?_ (by decide) (fun _ _ _=>?_) ?_ <;> try dsimp only [cond_true,cond_false]) | (refine Sim.call (qd0 _ _) ?_ ?_ (fun _ _ _ _=>?_) (fun _=>?_) <;> try dsimp only [cond_true,cond_false]) | refine Sim.look ?_ | (refine Sim.tok I ?_ ?_;rotate_left;try simp only [jK0]) | (refine Sim.condN (fun _=>?_) (fun _=>?_)) | refine Sim.cond (fun _=>?_) (fun _=>?_) | refine Sim.need ?_ ?_ | refine JQ0 ?_ ?_ | (refine Sim.callR (qd0 _ _) ?_ ?_ (fun _ _ _ _ _ _ _ _ _=>?_) (fun _ _=>?_) <;> try dsimp only [cond_true,cond_false]) | refine Sim.ret ?_ | exact T1.pipe T (by omega) _ (by omega) | refine And.intro ?_ ?_ | exact List.cons_ne_nil _ _ | exact qI0 | refine qQ0 ?_ | refine jl0 ?_ | omega | (simp only [List.length_append,List.length_cons,List.length_nil];done) | exact rfl)
end fns3
def EX' (r:PR (Nd×Nat) Nat) (m:PR Rx Int):Prop:=match r with
 | .ok a=>GndR a.1.ks∧a.1.ks.length≤2*a.2+2∧∃ b v,(b=true→a.1.ks.length=1)∧m=.ok (b,a.1.ks,a.1.ks.length,v,(a.2:Int))
 | .er e=>m=.er (e:Int)
 | .no=>False
theorem EX_er {q:Nat}:EX' (.er q) (.er (q:Int)):=rfl
theorem EX_ok {acc:List V} {len v q:Nat} {b:Bool} {k:Int} {t:List UInt8} (h:len=acc.length) (hg:GndR acc) (hl:acc.length≤2*q+2) (hb:b=true→acc.length=1):EX' (.ok (⟨k,t,acc⟩,q)) (.ok (b,acc,len,v,(q:Int))):=by subst h;exact ⟨hg,hl,b,v,hb,rfl⟩
inductive Cl:NT→Nat→Prop where
 | param:Cl .param 81
 | pair:Cl .pair 77
 | pipe:Cl (.exp 1) 55
 | keyPat:Cl .keyPat 156
 | pattern:Cl .pattern 114
structure T3 (es:List V) (l:List (Int×List UInt8)) (n:Nat):Prop extends T2 es l n where
 one:∀ {x i},Cl x i→∀ {m},12*n+wid l+13≤m→∀ p,p≤l.length→∀ r,qb0 l n x p=some r→(MF m).N i es (p:Nat)=qB0 r
 rows:∀ {x i},Cl x i→∀ {m},12*n+wid l+12≤m→∀ a b p,p≤l.length→∀ r,qb0 l n (.rows x a b) p=some r→EX' r ((MF m).rows i es a b (p:Nat))
 key:∀ {m},12*n+wid l+12≤m→∀ p,p≤l.length→∀ r,qb0 l n .key p=some r→EK r ((MF m).key es (p:Nat))
 rowsL:∀ {x i},Cl x i→∀ {m},12*n+wid l+12≤m→∀ a b v len acc p,p≤l.length→len=acc.length→len≤2*p+2→GndR acc→∀ r,qb0 l n (.rowsL x a b acc) p=some r→ER r ((MF m).rowsL i es a b v len acc (p:Nat))
theorem Sim.callX {α ε:Type} {rec:NT→Nat→Option (PR (Nd×Nat) Nat)} {l:List (Int×List UInt8)} {E:PR (Nd×Nat) Nat→PR α ε→Prop} {x:NT} {f:Nd→Pg} {p:Nat} {y:PR Rx Int} {g:Rx→PR α ε} {g':Int→PR α ε} (hr:je0 rec l) (hp:p≤l.length) (hx:∀ r,rec x p=some r→EX' r y) (h:∀ k t acc v q,p≤q→q≤l.length→GndR acc→acc.length≤2*q+2→∀ b,(b=true→acc.length=1)→Sim rec l E (f ⟨k,t,acc⟩) q (g (b,acc,acc.length,v,(q:Int)))) (h':∀ e:Nat,E (.er e) (g' (e:Int))):Sim rec l E (.call x f) p (PR.bnd .no y g g'):=fun r hrun=>by
 unfold qt0 at hrun
 cases hxe:rec x p with
 | none=>rw [hxe] at hrun;cases hrun
 | some q =>
  rw [hxe] at hrun
  have h0:=hx q hxe
  have h1:=hr x p q hxe hp
  cases q with
  | ok a =>
   obtain ⟨hg,hl,b,v,hb,rfl⟩:=h0
   exact h a.1.k a.1.t a.1.ks v a.2 h1.1 h1.2 hg hl b hb r hrun
  | er e =>
   cases (show y=.er (e:Int) from h0)
   cases hrun;exact h' e
  | no=>exact h1.elim
theorem Ke0 {q:Nat}:EK (.er q) (.er (q:Int)):=rfl
theorem qd1 {n:Nd} {q:Nat}:EK (.ok (n,q)) (.ok ((n,decide (n.k=4)),(q:Int))):=rfl
theorem Sim.callK {α ε:Type} {rec:NT→Nat→Option (PR (Nd×Nat) Nat)} {l:List (Int×List UInt8)} {E:PR (Nd×Nat) Nat→PR α ε→Prop} {x:NT} {f:Nd→Pg} {p:Nat} {y:PR ((Nd×Bool)×Int) Int} {g:(Nd×Bool)×Int→PR α ε} {g':Int→PR α ε} (hr:je0 rec l) (hp:p≤l.length) (hx:∀ r,rec x p=some r→EK r y) (h:∀ a q,p≤q→q≤l.length→Sim rec l E (f a) q (g ((a,decide (a.k=4)),(q:Int)))) (h':∀ e:Nat,E (.er e) (g' (e:Int))):Sim rec l E (.call x f) p (PR.bnd .no y g g'):=fun r hrun=>by
 unfold qt0 at hrun
 cases hxe:rec x p with
 | none=>rw [hxe] at hrun;cases hrun
 | some q =>
  rw [hxe] at hrun
  have h0:=hx q hxe
  have h1:=hr x p q hxe hp
  cases q with
  | ok a =>
   cases (show y=.ok ((a.1,decide (a.1.k=4)),(a.2:Int)) from h0)
   exact h a.1 a.2 h1.1 h1.2 r hrun
  | er e =>
   cases (show y=.er (e:Int) from h0)
   cases hrun;exact h' e
  | no=>exact h1.elim
section fns4
variable {es:List V} {l:List (Int×List UInt8)} {n m p:Nat} (I:Items es l) (X:T3 es l n) (hm:12*n+wid l+23≤m) (hp:p≤l.length)
 include I X hm hp
theorem QV2 {x:NT} {i:Nat} (hc:Cl x i) (a b:List UInt8) (v len:Nat) (acc:List V) (hl:len=acc.length) (hb:len≤2*p+2) (hg:GndR acc):Sim (qb0 l n) l ER (Pg.body (.rowsL x a b acc)) p (qA0 .no .ok .er (MF m) es i a b v len acc p):=by
 have _:=hp
 have U:=X.toT2
 have T:=U.toT1
 have hs:=I.small
 simp only [Pg.body,Pg.call1]
 unfold qA0
 (repeat' first | (intro h;cases h;done) | refine T3.rowsL X (by assumption) ?_ _ _ _ _ _ _ ?_ ?_ ?_ ?_ | refine T3.one X (by assumption) ?_ _ ?_ | exact Zi0 | with_reducible exact rfl | assumption | (refine Sim.has I ?_ (fun _=>?_) (fun _=>?_) <;> try dsimp only [cond_true,cond_false]) | (refine Sim.call (qd0 _ _) ?_ ?_ (fun _ _ _ _=>?_) (fun _=>?_) <;> try dsimp only [cond_true,cond_false]) | refine Sim.need ?_ ?_ | refine YI0 ?_ ?_ | refine ZW0 ?_ ?_ ?_ | (refine Sim.callR (qd0 _ _) ?_ ?_ (fun _ _ _ _ _ _ _ _ _=>?_) (fun _ _=>?_) <;> try dsimp only [cond_true,cond_false]) | refine Sim.ret ?_ | refine And.intro ?_ ?_ | exact qI0 | refine qQ0 ?_ | refine zG0 ?_ ?_ | omega | (simp only [List.length_append,List.length_cons,List.length_nil];omega))
theorem QK2:Sim (qb0 l n) l EN (Pg.body .object) p (Qh0 .no .ok .er (MF m) es p):=by
 have U:=X.toT2
 have T:=U.toT1
 have hs:=I.small
 simp only [Pg.body]
 unfold Qh0
 (repeat' first | exact qq0 | refine T3.rows X ?_ ?_ _ _ _ ?_ | (refine Sim.callX (qd0 _ _) ?_ ?_ (fun _ _ _ _ _ _ _ _ _ b hb=>?_) (fun _=>?_);rotate_left;rotate_left;cases b <;> try dsimp only [cond_true,cond_false]) | exact Cl.pair | exact qh0 | with_reducible exact rfl | assumption | (refine Sim.has I ?_ (fun _=>?_) (fun _=>?_) <;> try dsimp only [cond_true,cond_false]) | refine Sim.need ?_ ?_ | refine Sim.ret ?_ | refine And.intro ?_ ?_ | omega)
theorem t_rows {x:NT} {i:Nat} (hc:Cl x i) (a b:List UInt8):Sim (qb0 l n) l EX' (Pg.body (.rows x a b)) p (qS0 .no .ok .er (MF m) es i a b p):=by
 have U:=X.toT2
 have T:=U.toT1
 have hs:=I.small
 simp only [Pg.body]
 unfold qS0
 refine Sim.call (qd0 _ _) hp (X.one hc (by omega) _ hp) (fun y q h1 h2=>?_) (fun _=>EX_er)
 refine Sim.inl ?_
 simp only [Pg.body,Pg.call1,Pg.bind,yT1]
 (repeat' first | exact EX_er | (intro h;cases h;done) | exact fun _=>rfl | refine EX_ok ?_ ?_ ?_ ?_ | refine T3.rowsL X (by assumption) ?_ _ _ _ _ _ _ ?_ ?_ ?_ ?_ | refine T3.one X (by assumption) ?_ _ ?_ | with_reducible exact rfl | assumption | (refine Sim.has I ?_ (fun _=>?_) (fun _=>?_) <;> try dsimp only [cond_true,cond_false]) | (refine Sim.needS I ?_ (fun _=>?_) ?_ <;> try dsimp only [cond_true,cond_false]) | (refine Sim.call (qd0 _ _) ?_ ?_ (fun _ _ _ _=>?_) (fun _=>?_) <;> try dsimp only [cond_true,cond_false]) | refine Sim.need ?_ ?_ | (refine Sim.callR (qd0 _ _) ?_ ?_ (fun _ _ _ _ _ _ _ _ _=>?_) (fun _ _=>?_) <;> try dsimp only [cond_true,cond_false]) | refine Sim.ret ?_ | refine And.intro ?_ ?_ | exact qI0 | refine qQ0 ?_ | omega | (simp only [List.length_append,List.length_cons,List.length_nil];done) | (simp only [List.length_cons,List.length_nil];omega))
theorem QI2:Sim (qb0 l n) l EN (Pg.body .callw) p (jP0 .no .ok .er (MF m) es p):=by
 have _:=hp
 have U:=X.toT2
 have T:=U.toT1
 have hs:=I.small
 simp only [Pg.body]
 unfold jP0
 (repeat' first | exact qq0 | refine T3.rows X ?_ ?_ _ _ _ ?_ | (refine Sim.callX (qd0 _ _) ?_ ?_ (fun _ _ _ _ _ _ _ _ _ b hb=>?_) (fun _=>?_);rotate_left;rotate_left;cases b <;> try dsimp only [cond_true,cond_false]) | exact Cl.pipe | exact qh0 | with_reducible exact rfl | assumption | (refine Sim.has I ?_ (fun _=>?_) (fun _=>?_) <;> try dsimp only [cond_true,cond_false]) | (refine Sim.take I ?_ (by decide) (fun _ _ _=>?_) ?_ <;> try dsimp only [cond_true,cond_false]) | refine Sim.need ?_ ?_ | refine Sim.ret ?_ | refine And.intro ?_ ?_ | omega)
theorem QJ2:Sim (qb0 l n) l EN (Pg.body .keyPat) p (Qd0 .no .ok .er (MF m) es p):=by
 have U:=X.toT2
 have T:=U.toT1
 have hs:=I.small
 simp only [Pg.body]
 unfold Qd0
 (repeat' first | exact qq0 | (intro h;cases h;done) | (refine Sim.callK (qd0 _ _) ?_ ?_ (fun _ _ _ _=>?_) (fun _=>?_) <;> try dsimp only [cond_true,cond_false]) | refine T3.key X ?_ _ ?_ | exact qh0 | with_reducible exact rfl | assumption | (refine Sim.needS I ?_ (fun _=>?_) ?_ <;> try dsimp only [cond_true,cond_false]) | (refine Sim.is I ?_ (fun b _=>?_);rotate_left;cases b <;> try dsimp only [cond_true,cond_false]) | (refine Sim.call (qd0 _ _) ?_ ?_ (fun _ _ _ _=>?_) (fun _=>?_) <;> try dsimp only [cond_true,cond_false]) | refine Sim.cond (fun _=>?_) (fun _=>?_) | refine Sim.need ?_ ?_ | refine Sim.ret ?_ | exact T1.pattern T (by omega) _ (by omega) | refine And.intro ?_ ?_ | exact qI0 | refine qQ0 ?_ | omega | exact rfl)
theorem QO2:Sim (qb0 l n) l EN (Pg.body .pattern) p (Qo0 .no .ok .er (MF m) es p):=by
 have _:=hp
 have U:=X.toT2
 have T:=U.toT1
 have hs:=I.small
 simp only [Pg.body]
 unfold Qo0
 (repeat' first | exact qq0 | refine T3.rows X ?_ ?_ _ _ _ ?_ | (refine Sim.callX (qd0 _ _) ?_ ?_ (fun _ _ _ _ _ _ _ _ _ b hb=>?_) (fun _=>?_);rotate_left;rotate_left;cases b <;> try dsimp only [cond_true,cond_false]) | exact Cl.keyPat | exact Cl.pattern | exact trivial | exact qh0 | with_reducible exact rfl | assumption | (refine Sim.has I ?_ (fun _=>?_) (fun _=>?_) <;> try dsimp only [cond_true,cond_false]) | (refine Sim.needS I ?_ (fun _=>?_) ?_ <;> try dsimp only [cond_true,cond_false]) | (refine Sim.take I ?_ (by decide) (fun _ _ _=>?_) ?_ <;> try dsimp only [cond_true,cond_false]) | (refine Sim.tail (fun c v hw=>?_);subst hw;try dsimp only [List.drop]) | refine Sim.look ?_ | (refine Sim.tok I ?_ ?_;rotate_left;try simp only [yI0]) | refine Sim.cond (fun _=>?_) (fun _=>?_) | refine Sim.need ?_ ?_ | refine Sim.ret ?_ | refine And.intro ?_ ?_ | omega | (simp only [List.length_cons];omega))
theorem t_pair:Sim (qb0 l n) l EN (Pg.body .pair) p (Qk0 .no .ok .er (MF m) es p):=by
 have U:=X.toT2
 have T:=U.toT1
 have hs:=I.small
 simp only [Pg.body]
 unfold Qk0
 refine Sim.callK (qd0 _ _) hp (X.key (by omega) _ hp) (fun a q h1 h2=>?_) (fun _=>qh0)
 dsimp only
 generalize decide (a.k=4)=b
 cases b <;> dsimp only [cond_true,cond_false] <;> (repeat' first | exact qq0 | (intro h;cases h;done) | exact qh0 | with_reducible exact rfl | assumption | (refine Sim.needS I ?_ (fun _=>?_) ?_ <;> try dsimp only [cond_true,cond_false]) | (refine Sim.is I ?_ (fun b _=>?_);rotate_left;cases b <;> try dsimp only [cond_true,cond_false]) | (refine Sim.call (qd0 _ _) ?_ ?_ (fun _ _ _ _=>?_) (fun _=>?_) <;> try dsimp only [cond_true,cond_false]) | (refine Sim.condN (fun _=>?_) (fun _=>?_)) | refine Sim.need ?_ ?_ | refine Sim.ret ?_ | exact T1.value T (by omega) _ (by omega) | refine And.intro ?_ ?_ | exact qI0 | refine qQ0 ?_ | omega | exact rfl)
end fns4
/-- Every result of these steps is so. -/
def Pg.rets (P:Nd→Prop):Pg→Prop
 | .ret n=>P n
 | .err=>True
 | .stop=>True
 | .look f=>∀ t,(f t).rets P
 | .adv k=>k.rets P
 | .call _ f=>∀ n,(f n).rets P
theorem yS2 {rec:NT→Nat→Option (PR (Nd×Nat) Nat)} {l:List (Int×List UInt8)} {P:Nd→Prop} (pg:Pg):∀ p a,pg.rets P→qt0 rec l pg p=some (.ok a)→P a.1:=by
 induction pg with
 | ret n=>intro p a h hr;cases hr;exact h
 | err=>intro p a h hr;cases hr
 | stop=>intro p a h hr;cases hr
 | look f IH=>intro p a h hr;exact IH _ p a (h _) hr
 | adv k IH =>
  intro p a h hr
  unfold qt0 at hr
  by_cases hl:p<l.length
  ·rw [if_pos hl] at hr;exact IH (p+1) a h hr
  ·rw [if_neg hl] at hr;cases hr
 | call x f IH =>
  intro p a h hr
  unfold qt0 at hr
  cases hx:rec x p with
  | none=>rw [hx] at hr;cases hr
  | some q =>
   rw [hx] at hr
   cases q with
   | ok b=>exact IH b.1 b.2 a (h _) hr
   | er e=>cases hr
   | no=>cases hr
theorem ZP1 {P:Nd→Prop} {b:Bool} {x y:Pg} (hx:x.rets P) (hy:y.rets P):(bif b then x else y:Pg).rets P:=by cases b <;> assumption
theorem XM0 {P:Nd→Prop} {c:Int} {f:List UInt8→Pg} (h:∀ w,(f w).rets P):(Pg.take c f).rets P:=by
 intro t
 cases t with
 | none=>trivial
 | some t=>exact ZP1 (h _) trivial
theorem text_k (n:Nat) (l:List (Int×List UInt8)) (p:Nat) (a:Nd×Nat) (h:qb0 l n .text p=some (.ok a)):a.1.k=6:=by
 cases n with
 | zero=>cases h
 | succ n =>
  refine yS2 (P:=fun n=>n.k=6) (Pg.body .text) p a ?_ h
  simp only [Pg.body,Pg.textQ]
  intro t
  refine ZP1 (XM0 fun w=>XM0 fun _ n=>XM0 fun _=>rfl) (XM0 fun _ n=>XM0 fun _=>rfl)
theorem Yr1 {c:Int} {t:Option (Int×List UInt8)} (h:sub c t=true):(za0 t).1=c:=by
 cases t with
 | none=>cases h
 | some t=>exact of_decide_eq_true h
theorem Sim.callP {α ε:Type} {rec:NT→Nat→Option (PR (Nd×Nat) Nat)} {l:List (Int×List UInt8)} {E:PR (Nd×Nat) Nat→PR α ε→Prop} (P:Nd→Prop) {x:NT} {f:Nd→Pg} {p:Nat} {y:PR (Nd×Int) Int} {g:Nd×Int→PR α ε} {g':Int→PR α ε} (hr:je0 rec l) (hP:∀ a,rec x p=some (.ok a)→P a.1) (hp:p≤l.length) (hx:∀ r,rec x p=some r→y=qB0 r) (h:∀ a q,P a→p≤q→q≤l.length→Sim rec l E (f a) q (g (a,(q:Int)))) (h':∀ e:Nat,E (.er e) (g' (e:Int))):Sim rec l E (.call x f) p (PR.bnd .no y g g'):=fun r hrun=>by
 unfold qt0 at hrun
 cases hxe:rec x p with
 | none=>rw [hxe] at hrun;cases hrun
 | some q =>
  rw [hxe] at hrun
  rw [hx q hxe]
  have h1:=hr x p q hxe hp
  cases q with
  | ok a=>exact h a.1 a.2 (hP a hxe) h1.1 h1.2 r hrun
  | er e=>cases hrun;exact h' e
  | no=>exact h1.elim
theorem zC2 {b:Bool} {x y:Bool}:(PR.ok (bif b then x else y):PR Bool Int)=bif b then .ok x else .ok y:=by cases b <;> rfl
theorem QZ1 {m:Nat} (hm:1≤m) (w:List UInt8):(MF m).word w=.ok (Jg0 w):=by
 obtain ⟨m,rfl⟩:∃ k,m=k+1:=⟨m-1,by omega⟩
 change QL0 PR.no PR.ok PR.er (MF m) w=.ok (Go0 w zx1)
 unfold QL0 zx1
 simp only [Go0,zC2]
theorem Sim.word {α ε:Type} {rec:NT→Nat→Option (PR (Nd×Nat) Nat)} {l:List (Int×List UInt8)} {E:PR (Nd×Nat) Nat→PR α ε→Prop} {m p:Nat} {pg:Pg} (hm:1≤m) {w:List UInt8} {g:Bool→PR α ε} {g':Int→PR α ε} (h:Sim rec l E pg p (g (Jg0 w))):Sim rec l E pg p (PR.bnd .no ((MF m).word w) g g'):=by rw [QZ1 hm];exact h
theorem YK1 {a:Nd} {q:Nat} (h:a.k=6):EK (.ok (a,q)) (.ok ((a,false),(q:Int))):=by
 have:decide (a.k=4)=false:=decide_eq_false (by omega)
 change PR.ok ((a,false),(q:Int))=.ok ((a,decide (a.k=4)),(q:Int))
 rw [this]
section fns5
variable {es:List V} {l:List (Int×List UInt8)} {n m p:Nat} (I:Items es l) (X:T3 es l n) (hm:12*n+wid l+23≤m) (hp:p≤l.length)
 include I X hm hp
theorem t_key:Sim (qb0 l n) l EK (Pg.body .key) p (Qc0 .no .ok .er (MF m) es p):=by
 have U:=X.toT2
 have T:=U.toT1
 have hs:=I.small
 simp only [Pg.body,Pg.call1]
 unfold Qc0
 refine Sim.look (Sim.tok I (by omega) ?_)
 simp only [yI0,jd0,yJ0,ys0]
 refine Sim.cond (fun h=>?_) (fun _=>?_)
 ·rw [Yr1 h];(repeat' first | exact Ke0 | exact qd1 | (refine Sim.take I ?_ (by decide) (fun _ _ _=>?_) ?_ <;> try dsimp only [cond_true,cond_false]) | (refine Sim.tail (fun c v hw=>?_);subst hw;try dsimp only [List.drop]) | refine Sim.need ?_ ?_ | refine Sim.ret ?_ | refine And.intro ?_ ?_ | omega | (simp only [List.length_cons];omega))
 ·refine Sim.cond (fun h=>?_) (fun _=>?_)
  ·rw [Yr1 h];(repeat' first | exact Ke0 | exact qd1 | (refine Sim.take I ?_ (by decide) (fun _ _ _=>?_) ?_ <;> try dsimp only [cond_true,cond_false]) | refine Sim.ret ?_ | omega)
  ·generalize sub 7 l[p]?=x
   generalize sub 12 l[p]?=y
   cases x <;> cases y <;> simp only [cond_true,cond_false,Bool.or_true,Bool.or_false]
   ·(repeat' first | exact Ke0 | exact qd1 | assumption | (refine Sim.needS I ?_ (fun _=>?_) ?_ <;> try dsimp only [cond_true,cond_false]) | (refine Sim.call (qd0 _ _) ?_ ?_ (fun _ _ _ _=>?_) (fun _=>?_) <;> try dsimp only [cond_true,cond_false]) | refine Sim.ret ?_ | exact T1.pipe T (by omega) _ (by omega) | omega)
   all_goals exact Sim.callP (fun a=>a.k=6) (qd0 _ _) (fun a h=>text_k n l p a h) hp (T.text (by omega) p hp) (fun a q h _ _=>Sim.ret (YK1 h)) (fun _=>Ke0)
theorem QW2 (w:List UInt8) (hw:l[p]?=some (12,w)) (hl:p<l.length):Sim (qb0 l n) l EN (Pg.body (.textF w)) (p+1) (yO0 .no .ok .er (MF m) es p):=by
 have _:=hp
 have U:=X.toT2
 have T:=U.toT1
 have hs:=I.small
 simp only [Pg.body,Pg.textQ]
 unfold yO0
 rw [Xz0 I (by omega),hw]
 dsimp only [PR.bnd,za0]
 rw [decide_eq_true (show (12:Int)=12 from rfl),cond_true,Jr0 I (by omega) (by decide),hw]
 dsimp only [sub,za0]
 rw [decide_eq_true (show (12:Int)=12 from rfl),cond_true]
 dsimp only
 refine Sim.take I (by omega) (by decide) (fun _ _ _=>?_) qh0
 refine Sim.inl ?_
 simp only [Pg.body,Pg.call1,Pg.bind,jg0,YM0]
 refine Sim.look (Sim.tok I (by omega) ?_)
 simp only [yf0]
 (repeat' first | exact qq0 | exact trivial | refine T2.textL U ?_ _ _ _ _ _ ?_ ?_ ?_ ?_ | exact qh0 | with_reducible exact rfl | assumption | (refine Sim.take I ?_ (by decide) (fun _ _ _=>?_) ?_ <;> try dsimp only [cond_true,cond_false]) | (refine Sim.call (qd0 _ _) ?_ ?_ (fun _ _ _ _=>?_) (fun _=>?_) <;> try dsimp only [cond_true,cond_false]) | refine Sim.look ?_ | (refine Sim.tok I ?_ ?_;rotate_left;try simp only [jK0]) | (refine Sim.condN (fun _=>?_) (fun _=>?_)) | refine Sim.cond (fun _=>?_) (fun _=>?_) | refine Sim.need ?_ ?_ | refine JQ0 ?_ ?_ | (refine Sim.callR (qd0 _ _) ?_ ?_ (fun _ _ _ _ _ _ _ _ _=>?_) (fun _ _=>?_) <;> try dsimp only [cond_true,cond_false]) | refine Sim.ret ?_ | exact T1.pipe T (by omega) _ (by omega) | refine And.intro ?_ ?_ | exact List.cons_ne_nil _ _ | exact qI0 | refine qQ0 ?_ | refine jl0 ?_ | omega | (simp only [List.length_append,List.length_cons,List.length_nil];done) | exact rfl)
end fns5
theorem Sim.takeA {α ε:Type} {rec:NT→Nat→Option (PR (Nd×Nat) Nat)} {l:List (Int×List UInt8)} {E:PR (Nd×Nat) Nat→PR α ε→Prop} {es:List V} (I:Items es l) {m p:Nat} (hm:2≤m) {k:Int} {w:List UInt8} (hw:l[p]?=some (k,w)) (hk:k≠0) {a:Pg} {g:List UInt8×Int→PR α ε} {g':Int→PR α ε} (h:p<l.length→Sim rec l E a (p+1) (g (w,((p+1:Nat):Int)))):Sim rec l E (.adv a) p (PR.bnd .no ((MF m).take es k p) g g'):=by
 rw [Jr0 I hm hk,hw]
 have:sub k (some (k,w))=true:=decide_eq_true rfl
 rw [this]
 exact Sim.adv h
section fns6
variable {es:List V} {l:List (Int×List UInt8)} {n m p:Nat} (I:Items es l) (X:T3 es l n) (hF:∀ {m},12*n+wid l+12≤m→∀ w p,l[p]?=some (12,w)→p<l.length→∀ r,qb0 l n (.textF w) (p+1)=some r→(MF m).N 74 es (p:Nat)=qB0 r) (hm:12*n+wid l+23≤m) (hp:p≤l.length)
 include I X hF hm hp
theorem t_term:Sim (qb0 l n) l EN (Pg.body .term) p (QF0 .no .ok .er (MF m) es p):=by
 have U:=X.toT2
 have T:=U.toT1
 have hs:=I.small
 simp only [Pg.body,Pg.call1,Pg.one1,Pg.term,Pg.byWord]
 unfold QF0
 refine Sim.look (Sim.tok I (by omega) ?_)
 cases ht:l[p]? with
 | none=>exact Sim.err qh0
 | some t =>
  obtain ⟨k,w⟩:=t
  dsimp only [za0]
  refine Sim.cond (fun h=>?_) (fun h4=>?_)
  ·cases of_decide_eq_true h
   refine Sim.takeA I (by omega) ht (by decide) (fun _=>?_)
   (repeat' first | exact qq0 | (refine Sim.tail (fun c v hw=>?_);subst hw;try dsimp only [List.drop]) | refine Sim.need ?_ ?_ | refine Sim.ret ?_ | refine And.intro ?_ ?_ | omega | (simp only [List.length_cons];omega))
  refine Sim.cond (fun h=>?_) (fun h5=>?_)
  ·cases of_decide_eq_true h
   refine Sim.takeA I (by omega) ht (by decide) (fun _=>?_)
   (repeat' first | exact qq0 | (refine Sim.tail (fun c v hw=>?_);subst hw;try dsimp only [List.drop]) | refine Sim.need ?_ ?_ | refine Sim.ret ?_ | refine And.intro ?_ ?_ | omega | (simp only [List.length_cons];omega))
  refine Sim.cond (fun h=>?_) (fun h6=>?_)
  ·cases of_decide_eq_true h
   refine Sim.takeA I (by omega) ht (by decide) (fun _=>?_)
   (repeat' first | exact qq0 | refine Sim.ret ?_)
  refine Sim.cond (fun h=>?_) (fun h7=>?_)
  ·(repeat' first | exact qq0 | exact qh0 | assumption | (refine Sim.call (qd0 _ _) ?_ ?_ (fun _ _ _ _=>?_) (fun _=>?_) <;> try dsimp only [cond_true,cond_false]) | refine Sim.ret ?_ | exact T1.text T (by omega) _ (by omega))
  refine Sim.cond (fun h=>?_) (fun h12=>?_)
  ·cases of_decide_eq_true h
   have hl:=I.len
   refine Sim.adv fun hlt=>Sim.look ?_
   rw [qR0 ⟨by omega,by omega⟩]
   rcases Nat.lt_or_ge (p+1) l.length with hq | hq
   ·rw [decide_eq_true (by omega),cond_true,qR0 ⟨by omega,by omega⟩,qR0 ⟨by omega,by omega⟩]
    have h1:Int.toNat ((p:Int)+1)=p+1:=by omega
    rw [h1,qR0 (I.ldk (p+1) hq),List.getElem?_eq_getElem hq]
    have h2:gI 4 es (Nat.add (Nat.add ((p+1)*4) 0) 0) 0=l[p+1].1:=I.kind (p+1) hq
    rw [h2]
    refine Sim.cond (fun _=>?_) (fun _=>?_)
    ·exact Sim.call (qd0 _ _) (by omega) (hF (by omega) w p ht hlt) (fun _ _ _ _=>Sim.ret qq0) (fun _=>qh0)
    ·rw [Jr0 I (by omega) (by decide),ht]
     exact Sim.ret qq0
   ·rw [decide_eq_false (by omega),cond_false,List.getElem?_eq_none hq,Jr0 I (by omega) (by decide),ht]
    exact Sim.ret qq0
  refine Sim.cond (fun h3=>?_) (fun h3=>?_)
  ·cases of_decide_eq_true h3
   simp only [decide_true,Bool.not_true,cond_false]
   (repeat' first | exact qq0 | exact qh0 | assumption | (refine Sim.take I ?_ (by decide) (fun _ _ _=>?_) ?_ <;> try dsimp only [cond_true,cond_false]) | (refine Sim.call (qd0 _ _) ?_ ?_ (fun _ _ _ _=>?_) (fun _=>?_) <;> try dsimp only [cond_true,cond_false]) | (refine Sim.tail (fun c v hw=>?_);subst hw;try dsimp only [List.drop]) | refine Sim.cond (fun _=>?_) (fun _=>?_) | (refine Sim.advI I (fun _=>?_);try simp only [qy1]) | refine Sim.need ?_ ?_ | refine Sim.ret ?_ | exact T1.root T (by omega) _ (by omega) | exact T1.array T (by omega) _ (by omega) | exact T1.paren T (by omega) _ (by omega) | exact T1.object T (by omega) _ (by omega) | exact T1.ifs T (by omega) _ (by omega) | exact T1.reduce T (by omega) _ (by omega) | exact T1.each T (by omega) _ (by omega) | refine And.intro ?_ ?_ | omega | (simp only [List.length_cons];omega))
   all_goals (refine Sim.word (by omega) ?_;(repeat' first | exact qq0 | exact qh0 | assumption | (refine Sim.call (qd0 _ _) ?_ ?_ (fun _ _ _ _=>?_) (fun _=>?_) <;> try dsimp only [cond_true,cond_false]) | refine Sim.cond (fun _=>?_) (fun _=>?_) | refine Sim.ret ?_ | refine Sim.err ?_ | exact T1.callw T (by omega) _ (by omega)))
  refine Sim.cond (fun h13=>?_) (fun h13=>?_)
  ·simp only [of_decide_eq_false h3,decide_false,Bool.not_false,cond_true]
   (repeat' first | exact qq0 | exact qh0 | assumption | (refine Sim.take I ?_ (by decide) (fun _ _ _=>?_) ?_ <;> try dsimp only [cond_true,cond_false]) | (refine Sim.call (qd0 _ _) ?_ ?_ (fun _ _ _ _=>?_) (fun _=>?_) <;> try dsimp only [cond_true,cond_false]) | (refine Sim.tail (fun c v hw=>?_);subst hw;try dsimp only [List.drop]) | refine Sim.cond (fun _=>?_) (fun _=>?_) | (refine Sim.advI I (fun _=>?_);try simp only [qy1]) | refine Sim.need ?_ ?_ | refine Sim.ret ?_ | refine Sim.err ?_ | exact T1.root T (by omega) _ (by omega) | exact T1.array T (by omega) _ (by omega) | exact T1.paren T (by omega) _ (by omega) | exact T1.object T (by omega) _ (by omega) | exact T1.ifs T (by omega) _ (by omega) | exact T1.reduce T (by omega) _ (by omega) | exact T1.each T (by omega) _ (by omega) | refine And.intro ?_ ?_ | omega | (simp only [List.length_cons];omega))
  ·simp only [of_decide_eq_false h3,decide_false,Bool.not_false,cond_true]
   (repeat' first | exact qh0 | refine Sim.err ?_)
end fns6
/-- What is asked of the program's `Plain`. -/
def JS0:Prop:=∀ m (w:List UInt8),w.length≤9223372036854775807→w.length+10≤m→(MF m).plain w=.ok (Jh0 w)
theorem Sim.name {α ε:Type} {rec:NT→Nat→Option (PR (Nd×Nat) Nat)} {l:List (Int×List UInt8)} {E:PR (Nd×Nat) Nat→PR α ε→Prop} {es:List V} (I:Items es l) (HP:JS0) {m p:Nat} (hm:wid l+11≤m) {f:List UInt8→Pg} {g:List UInt8×Int→PR α ε} {g':Int→PR α ε} (h:∀ w,p<l.length→Sim rec l E (f w) (p+1) (g (w,((p+1:Nat):Int)))) (h':E (.er p) (g' (p:Int))):Sim rec l E (Pg.name f) p (PR.bnd .no ((MF m).name es p) g g'):=by
 have hn:(MF m).name es p=match l[p]? with
  | some (k,w)=>bif decide (k=3)&&Jh0 w then .ok (w,((p+1:Nat):Int)) else .er (p:Int)
  | none=>.er (p:Int):=by
  obtain ⟨m,rfl⟩:∃ k,m=k+1:=⟨m-1,by omega⟩
  change Qf0 PR.no PR.ok PR.er (MF m) es p=_
  unfold Qf0
  rw [Xz0 I (by omega),Jr0 I (by omega) (by decide)]
  cases ht:l[p]? with
  | none=>rfl
  | some t =>
   obtain ⟨k,w⟩:=t
   dsimp only [PR.bnd,za0,sub]
   rw [HP m w (by have:=yC1 l p (k,w) ht;have:=I.wide;dsimp only at *;omega) (by have:=yC1 l p (k,w) ht;dsimp only at this;omega)]
   cases decide (k=3) <;> cases Jh0 w <;> rfl
 rw [hn]
 unfold Pg.name
 refine Sim.look ?_
 cases ht:l[p]? with
 | none=>exact Sim.err h'
 | some t =>
  obtain ⟨k,w⟩:=t
  dsimp only
  cases (decide (k=3)&&Jh0 w) with
  | true=>exact Sim.adv fun hl=>h w hl
  | false=>exact Sim.err h'
section fns7
variable {es:List V} {l:List (Int×List UInt8)} {n m p:Nat} (I:Items es l) (X:T3 es l n) (HP:JS0) (hm:12*n+wid l+23≤m) (hp:p≤l.length)
 include I X HP hm hp
theorem QM2:Sim (qb0 l n) l EN (Pg.body .param) p (Ql0 .no .ok .er (MF m) es p):=by
 have _:=hp
 have U:=X.toT2
 have T:=U.toT1
 have hs:=I.small
 simp only [Pg.body]
 unfold Ql0
 refine Sim.look (Sim.tok I (by omega) ?_)
 simp only [yI0]
 refine Sim.cond (fun h=>?_) (fun h=>?_)
 ·(repeat' first | exact qq0 | exact qh0 | (refine Sim.take I ?_ (by decide) (fun _ _ _=>?_) ?_ <;> try dsimp only [cond_true,cond_false]) | refine Sim.ret ?_ | omega)
 ·refine Sim.name I HP (by omega) (fun w _=>?_) qh0
  (repeat' first | exact qq0 | refine Sim.ret ?_)
set_option maxHeartbeats 2000000 in
theorem t_dfnF:Sim (qb0 l n) l EN (Pg.body (.dfn false)) p (jS0 .no .ok .er (MF m) es p):=by
 have _:=hp
 have U:=X.toT2
 have T:=U.toT1
 have hs:=I.small
 simp only [Pg.body]
 unfold jS0
 refine Sim.name I HP (by omega) (fun w _=>?_) qh0
 (repeat' first | exact qq0 | (intro h;cases h;done) | refine T3.rows X ?_ ?_ _ _ _ ?_ | (refine Sim.callX (qd0 _ _) ?_ ?_ (fun _ _ _ _ _ _ _ _ _ b hb=>?_) (fun _=>?_);rotate_left;rotate_left;cases b <;> try dsimp only [cond_true,cond_false]) | exact Cl.param | exact qh0 | with_reducible exact rfl | assumption | (refine Sim.has I ?_ (fun _=>?_) (fun _=>?_) <;> try dsimp only [cond_true,cond_false]) | (refine Sim.needS I ?_ (fun _=>?_) ?_ <;> try dsimp only [cond_true,cond_false]) | (refine Sim.call (qd0 _ _) ?_ ?_ (fun _ _ _ _=>?_) (fun _=>?_) <;> try dsimp only [cond_true,cond_false]) | refine Sim.look ?_ | refine Sim.need ?_ ?_ | refine Sim.ret ?_ | exact T1.pipe T (by omega) _ (by omega) | exact T1.rest T (by omega) _ _ (by omega) | refine And.intro ?_ ?_ | exact qI0 | refine qQ0 ?_ | refine zG0 ?_ ?_ | omega | (simp only [List.length_append,List.length_cons,List.length_nil];done) | (simp only [List.length_cons,List.length_nil];omega) | exact rfl)
 all_goals (rename_i hb _ _ _ _ _;have hb':=hb rfl;simp only [List.length_cons,List.length_nil];omega)
set_option maxHeartbeats 2000000 in
theorem t_dfnT:Sim (qb0 l n) l EN (Pg.body (.dfn true)) p (jT0 .no .ok .er (MF m) es p):=by
 have _:=hp
 have U:=X.toT2
 have T:=U.toT1
 have hs:=I.small
 simp only [Pg.body]
 unfold jT0
 refine Sim.name I HP (by omega) (fun w _=>?_) qh0
 (repeat' first | exact qq0 | (intro h;cases h;done) | refine T3.rows X ?_ ?_ _ _ _ ?_ | (refine Sim.callX (qd0 _ _) ?_ ?_ (fun _ _ _ _ _ _ _ _ _ b hb=>?_) (fun _=>?_);rotate_left;rotate_left;cases b <;> try dsimp only [cond_true,cond_false]) | exact Cl.param | exact qh0 | with_reducible exact rfl | assumption | (refine Sim.has I ?_ (fun _=>?_) (fun _=>?_) <;> try dsimp only [cond_true,cond_false]) | (refine Sim.needS I ?_ (fun _=>?_) ?_ <;> try dsimp only [cond_true,cond_false]) | (refine Sim.call (qd0 _ _) ?_ ?_ (fun _ _ _ _=>?_) (fun _=>?_) <;> try dsimp only [cond_true,cond_false]) | refine Sim.look ?_ | refine Sim.need ?_ ?_ | refine Sim.ret ?_ | exact T1.pipe T (by omega) _ (by omega) | exact T1.rest T (by omega) _ _ (by omega) | refine And.intro ?_ ?_ | exact qI0 | refine qQ0 ?_ | refine zG0 ?_ ?_ | omega | (simp only [List.length_append,List.length_cons,List.length_nil];done) | (simp only [List.length_cons,List.length_nil];omega) | exact rfl)
 all_goals (rename_i hb _ _ _ _ _;have hb':=hb rfl;simp only [List.length_cons,List.length_nil];omega)
theorem QH2:Sim (qb0 l n) l EN (Pg.body .bring) p (jO0 .no .ok .er (MF m) es p):=by
 have _:=hp
 have U:=X.toT2
 have T:=U.toT1
 have hs:=I.small
 simp only [Pg.body]
 unfold jO0
 generalize hN:Pg.name=nm
 (repeat' first | exact qq0 | (intro h;cases h;done) | exact trivial | exact qh0 | with_reducible exact rfl | assumption | (refine Sim.needS I ?_ (fun _=>?_) ?_ <;> try dsimp only [cond_true,cond_false]) | (refine Sim.take I ?_ (by decide) (fun _ _ _=>?_) ?_ <;> try dsimp only [cond_true,cond_false]) | (refine Sim.call (qd0 _ _) ?_ ?_ (fun _ _ _ _=>?_) (fun _=>?_) <;> try dsimp only [cond_true,cond_false]) | (refine Sim.tail (fun c v hw=>?_);subst hw;try dsimp only [List.drop]) | refine Sim.look ?_ | (refine Sim.tok I ?_ ?_;rotate_left;try simp only [yI0]) | refine Sim.cond (fun _=>?_) (fun _=>?_) | refine Sim.need ?_ ?_ | refine Sim.ret ?_ | exact T1.plain T (by omega) _ (by omega) | refine And.intro ?_ ?_ | exact qI0 | refine qQ0 ?_ | refine jl0 ?_ | omega | (simp only [List.length_cons];omega) | exact rfl)
 all_goals (subst hN;refine Sim.name I HP (by omega) (fun w _=>?_) qh0;(repeat' first | exact qq0 | (intro h;cases h;done) | exact trivial | exact qh0 | (refine Sim.needS I ?_ (fun _=>?_) ?_ <;> try dsimp only [cond_true,cond_false]) | refine Sim.look ?_ | refine Sim.need ?_ ?_ | refine Sim.ret ?_ | refine And.intro ?_ ?_ | exact qI0 | refine qQ0 ?_ | refine jl0 ?_ | omega | exact rfl))
end fns7
theorem yT2 {rec:NT→Nat→Option (PR (Nd×Nat) Nat)} {l:List (Int×List UInt8)} (hr:je0 rec l) {c:Int} {f:List UInt8→Pg} {p:Nat} {a:Nd×Nat} (h:qt0 rec l (Pg.take c f) p=some (.ok a)):p+1≤a.2:=by
 unfold Pg.take at h
 rw [qt0] at h
 cases ht:l[p]? with
 | none=>rw [ht] at h;cases h
 | some t =>
  obtain ⟨k,w⟩:=t
  rw [ht] at h
  dsimp only at h
  cases hk:decide (k=c) with
  | false=>rw [hk] at h;cases h
  | true =>
   rw [hk,cond_true,qt0] at h
   by_cases hl:p<l.length
   ·rw [if_pos hl] at h
    exact (GG0 hr _ (p+1) (.ok a) h (by omega)).1
   ·rw [if_neg hl] at h;cases h
theorem Kr0 (l:List (Int×List UInt8)) (n p:Nat) (a:Nd×Nat) (h:qb0 l n .bring p=some (.ok a)):p+1≤a.2:=by
 cases n with
 | zero=>cases h
 | succ n=>exact yT2 (qd0 l n) h
theorem Sim.callQ {α ε:Type} {rec:NT→Nat→Option (PR (Nd×Nat) Nat)} {l:List (Int×List UInt8)} {E:PR (Nd×Nat) Nat→PR α ε→Prop} {x:NT} {f:Nd→Pg} {p:Nat} {y:PR (Nd×Int) Int} {g:Nd×Int→PR α ε} {g':Int→PR α ε} (hr:je0 rec l) (hP:∀ a,rec x p=some (.ok a)→p+1≤a.2) (hp:p≤l.length) (hx:∀ r,rec x p=some r→y=qB0 r) (h:∀ a q,p+1≤q→q≤l.length→Sim rec l E (f a) q (g (a,(q:Int)))) (h':∀ e:Nat,E (.er e) (g' (e:Int))):Sim rec l E (.call x f) p (PR.bnd .no y g g'):=fun r hrun=>by
 unfold qt0 at hrun
 cases hxe:rec x p with
 | none=>rw [hxe] at hrun;cases hrun
 | some q =>
  rw [hxe] at hrun
  rw [hx q hxe]
  have h1:=hr x p q hxe hp
  cases q with
  | ok a=>exact h a.1 a.2 (hP a hxe) h1.2 r hrun
  | er e=>cases hrun;exact h' e
  | no=>exact h1.elim
section fns8
variable {es:List V} {l:List (Int×List UInt8)} {n m p:Nat} (I:Items es l) (X:T3 es l n) (hL:∀ {m},12*n+wid l+12≤m→∀ v len acc p,p≤l.length→len=acc.length→len≤2*p+2→GndR acc→∀ r,qb0 l n (.progL acc) p=some r→ER r ((MF m).progL es v len acc (p:Nat))) (hm:12*n+wid l+23≤m) (hp:p≤l.length)
 include I X hL hm hp
theorem QS2 (v len:Nat) (acc:List V) (hl:len=acc.length) (hb:len≤2*p+2) (hg:GndR acc):Sim (qb0 l n) l ER (Pg.body (.progL acc)) p (Qu0 .no .ok .er (MF m) es v len acc p):=by
 have U:=X.toT2
 have T:=U.toT1
 have hs:=I.small
 simp only [Pg.body,Pg.call1]
 unfold Qu0
 refine Sim.is I (by omega) (fun b _=>?_)
 cases b <;> dsimp only [cond_true,cond_false]
 ·refine Sim.is I (by omega) (fun b _=>?_)
  cases b <;> dsimp only [cond_true,cond_false]
  ·(repeat' first | assumption | refine Sim.need ?_ ?_ | refine ZW0 ?_ ?_ ?_ | refine Sim.ret ?_ | omega)
  ·refine Sim.callQ (qd0 _ _) (Kr0 l n p) hp (T.bring (by omega) p hp) (fun a q h1 h2=>?_) (fun _=>YI0 hg Zi0)
   (repeat' first | (intro h;cases h;done) | exact Zi0 | with_reducible exact rfl | assumption | refine Sim.need ?_ ?_ | refine ZW0 ?_ ?_ ?_ | (refine Sim.callR (qd0 _ _) ?_ ?_ (fun _ _ _ _ _ _ _ _ _=>?_) (fun _ _=>?_) <;> try dsimp only [cond_true,cond_false]) | refine Sim.ret ?_ | refine And.intro ?_ ?_ | exact qI0 | refine qQ0 ?_ | refine zG0 ?_ ?_ | omega | (simp only [List.length_cons,List.length_nil];omega))
   all_goals (refine hL (by omega) _ _ _ _ ?_ ?_ ?_ ?_ <;> (repeat' first | assumption | exact qI0 | refine qQ0 ?_ | refine zG0 ?_ ?_ | (simp only [List.length_append,List.length_cons,List.length_nil];omega)))
 ·refine Sim.callQ (qd0 _ _) (Kr0 l n p) hp (T.bring (by omega) p hp) (fun a q h1 h2=>?_) (fun _=>YI0 hg Zi0)
  (repeat' first | (intro h;cases h;done) | exact Zi0 | with_reducible exact rfl | assumption | refine Sim.need ?_ ?_ | refine ZW0 ?_ ?_ ?_ | (refine Sim.callR (qd0 _ _) ?_ ?_ (fun _ _ _ _ _ _ _ _ _=>?_) (fun _ _=>?_) <;> try dsimp only [cond_true,cond_false]) | refine Sim.ret ?_ | refine And.intro ?_ ?_ | exact qI0 | refine qQ0 ?_ | refine zG0 ?_ ?_ | omega | (simp only [List.length_cons,List.length_nil];omega))
  all_goals (refine hL (by omega) _ _ _ _ ?_ ?_ ?_ ?_ <;> (repeat' first | assumption | exact qI0 | refine qQ0 ?_ | refine zG0 ?_ ?_ | (simp only [List.length_append,List.length_cons,List.length_nil];omega)))
end fns8
theorem Sim.finish {rec:NT→Nat→Option (PR (Nd×Nat) Nat)} {l:List (Int×List UInt8)} {es:List V} (I:Items es l) {acc:List V} {k:Nd} {p:Nat} (hp:p≤l.length) {m:PR (Nd×Int) Int} (h0:acc=[]→m=.ok (k,(p:Int))) (h1:acc≠[]→m=.ok (⟨34,[],acc++[qa0 k]⟩,(p:Int))):Sim rec l EN (Pg.finish acc k) p (bif decide ((p:Int)<(↑(List.length es):Int)) then .er (p:Int) else m):=by
 have hl:=I.len
 unfold Pg.finish Pg.atEnd
 refine Sim.look ?_
 rcases Nat.lt_or_ge p l.length with h | h
 ·rw [List.getElem?_eq_getElem h,decide_eq_true (by omega)]
  exact Sim.err qh0
 ·rw [List.getElem?_eq_none h,decide_eq_false (by omega)]
  dsimp only [cond_false]
  cases acc with
  | nil=>rw [h0 rfl];exact Sim.ret qq0
  | cons a b=>rw [h1 (List.cons_ne_nil _ _)];exact Sim.ret qq0
end Go.AM
