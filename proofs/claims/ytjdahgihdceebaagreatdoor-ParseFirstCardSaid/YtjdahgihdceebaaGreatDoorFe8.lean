/-
  WHAT FUNCTIONS OF THE PROGRAM COME TO, told by the machine, and plain laws of it. No condition but what each theorem says of its arguments.
-/
import Derived.Test.YtjdahgihdceebaaGreatDoorFe7
namespace Go.AM
open Go.Proofs
set_option maxRecDepth 100000
set_option maxHeartbeats 4000000
theorem YH1 {len:Nat} {acc:List V} (h:len=acc.length) (ha:acc=[]):decide ((0:Int)<(len:Int))=false:=by subst ha;subst h;rfl
theorem YG1 {len:Nat} {acc:List V} (h:len=acc.length) (ha:acc≠[]):decide ((0:Int)<(len:Int))=true:=by
 subst h
 cases acc with
 | nil=>exact absurd rfl ha
 | cons a b=>exact decide_eq_true (by rw [List.length_cons];omega)
theorem JP0 {len:Nat} {acc:List V} (h:len=acc.length) (ha:acc≠[]):decide ((len:Int)=0)=false:=by
 subst h
 cases acc with
 | nil=>exact absurd rfl ha
 | cons a b=>exact decide_eq_false (by rw [List.length_cons];omega)
theorem nn {A B d:Prop} [Decidable d] {m0 z:PR (Nd×Int) Int} (h0:decide d=false) (hA:A) (hB:B):(bif decide d then m0 else need .no A (need .no B z))=z:=by
 rw [h0,cond_false,qO0 hA,qO0 hB]
section fns9
variable {es:List V} {l:List (Int×List UInt8)} {n m p:Nat} (I:Items es l) (X:T3 es l n) (hL:∀ {m},12*n+wid l+12≤m→∀ v len acc p,p≤l.length→len=acc.length→len≤2*p+2→GndR acc→∀ r,qb0 l n (.progL acc) p=some r→ER r ((MF m).progL es v len acc (p:Nat))) (hm:12*n+wid l+23≤m) (hp:p≤l.length)
 include I X hL hm hp
theorem Zr2:Sim (qb0 l n) l EN (Pg.body .program) p (Qp0 .no .ok .er (MF m) es p):=by
 have U:=X.toT2
 have T:=U.toT1
 have hs:=I.small
 simp only [Pg.body]
 unfold Qp0
 refine Sim.inl ?_
 simp only [Pg.body,Pg.call1,Pg.bind,Jl1,jc0,List.nil_append]
 refine Sim.is I (by omega) (fun b _=>?_)
 cases b <;> dsimp only [cond_true,cond_false,Pg.bind]
 ·refine Sim.is I (by omega) (fun b _=>?_)
  cases b <;> dsimp only [cond_true,cond_false,Pg.bind]
  ·refine Sim.has I (by omega) (fun _=>?_) (fun _=>?_) <;> dsimp only [cond_true,cond_false]
   ·refine Sim.call (qd0 _ _) (by omega) (T.dfn (by omega) true _ (by omega)) (fun a q h1 h2=>?_) (fun _=>qi0)
    exact Sim.finish I h2 (fun _=>rfl) (fun h=>absurd rfl h)
   ·refine Sim.call (qd0 _ _) (by omega) (T.pipe (by omega) _ (by omega)) (fun a q h1 h2=>?_) (fun _=>qi0)
    exact Sim.finish I h2 (fun _=>rfl) (fun h=>absurd rfl h)
  ·refine Sim.callQ (qd0 _ _) (Kq0 l n p) hp (T.bring (by omega) p hp) (fun a q h1 h2=>?_) (fun _=>qi0)
   dsimp only [Pg.bind]
   refine Sim.need ⟨List.cons_ne_nil _ _,by omega,by omega⟩ ?_
   refine Sim.need (qM0 qG0) ?_
   refine Sim.callR (qd0 _ _) h2 (hL (by omega) 0 1 _ q h2 rfl (by omega) (qM0 qG0)) (fun k t acc v q' h3 h4 hg hb=>?_) (fun _ _=>qi0)
   dsimp only [Pg.bind]
   cases acc with
   | nil =>
    rw [YH1 (acc:=[]) rfl rfl]
    dsimp only [cond_false]
    refine Sim.has I (by omega) (fun _=>?_) (fun _=>?_) <;> dsimp only [cond_true,cond_false]
    ·refine Sim.call (qd0 _ _) (by omega) (T.dfn (by omega) true _ (by omega)) (fun a q h5 h6=>?_) (fun _=>qi0)
     exact Sim.finish I h6 (fun _=>rfl) (fun h=>absurd rfl h)
    ·refine Sim.call (qd0 _ _) (by omega) (T.pipe (by omega) _ (by omega)) (fun a q h5 h6=>?_) (fun _=>qi0)
     exact Sim.finish I h6 (fun _=>rfl) (fun h=>absurd rfl h)
   | cons a1 b1 =>
    have ha:a1::b1≠[]:=List.cons_ne_nil a1 b1
    rw [YG1 (acc:=a1::b1) rfl ha]
    dsimp only [cond_true]
    generalize a1::b1=acc at *
    refine Sim.atEnd I h4 (fun hq=>?_) (fun hq=>?_)
    ·rw [decide_eq_false (show ¬ ((q':Nat):Int)<(es.length:Int) by rw [I.len];omega),cond_false]
     rw [nn (JP0 rfl ha) ⟨by trivial,by first | trivial | exact List.cons_ne_nil _ _,by trivial,by first | trivial | exact Nat.zero_le _,by simp only [List.length_cons,List.length_nil];omega,by simp only [List.length_cons,List.length_nil];omega⟩ ⟨by trivial,by trivial,by first | trivial | exact List.length_append.symm,zD0 hg (jh0 qG0)⟩]
     exact Sim.ret qs0
    ·refine Sim.has I (by omega) (fun _=>?_) (fun _=>?_) <;> dsimp only [cond_true,cond_false]
     ·refine Sim.call (qd0 _ _) (by omega) (T.dfn (by omega) true _ (by omega)) (fun a q h5 h6=>?_) (fun _=>qi0)
      exact Sim.finish I h6 (fun h=>absurd h ha) (fun _=>nn (JP0 rfl ha) ⟨by trivial,by first | trivial | exact List.cons_ne_nil _ _,by trivial,by first | trivial | exact Nat.zero_le _,by simp only [List.length_cons,List.length_nil];omega,by simp only [List.length_cons,List.length_nil];omega⟩ ⟨by trivial,by trivial,by first | trivial | exact List.length_append.symm,zD0 hg (qM0 qG0)⟩)
     ·refine Sim.call (qd0 _ _) (by omega) (T.pipe (by omega) _ (by omega)) (fun a q h5 h6=>?_) (fun _=>qi0)
      exact Sim.finish I h6 (fun h=>absurd h ha) (fun _=>nn (JP0 rfl ha) ⟨by trivial,by first | trivial | exact List.cons_ne_nil _ _,by trivial,by first | trivial | exact Nat.zero_le _,by simp only [List.length_cons,List.length_nil];omega,by simp only [List.length_cons,List.length_nil];omega⟩ ⟨by trivial,by trivial,by first | trivial | exact List.length_append.symm,zD0 hg (qM0 qG0)⟩)
 ·refine Sim.callQ (qd0 _ _) (Kq0 l n p) hp (T.bring (by omega) p hp) (fun a q h1 h2=>?_) (fun _=>qi0)
  dsimp only [Pg.bind]
  refine Sim.need ⟨List.cons_ne_nil _ _,by omega,by omega⟩ ?_
  refine Sim.need (qM0 qG0) ?_
  refine Sim.callR (qd0 _ _) h2 (hL (by omega) 0 1 _ q h2 rfl (by omega) (qM0 qG0)) (fun k t acc v q' h3 h4 hg hb=>?_) (fun _ _=>qi0)
  dsimp only [Pg.bind]
  cases acc with
  | nil =>
   rw [YH1 (acc:=[]) rfl rfl]
   dsimp only [cond_false]
   refine Sim.has I (by omega) (fun _=>?_) (fun _=>?_) <;> dsimp only [cond_true,cond_false]
   ·refine Sim.call (qd0 _ _) (by omega) (T.dfn (by omega) true _ (by omega)) (fun a q h5 h6=>?_) (fun _=>qi0)
    exact Sim.finish I h6 (fun _=>rfl) (fun h=>absurd rfl h)
   ·refine Sim.call (qd0 _ _) (by omega) (T.pipe (by omega) _ (by omega)) (fun a q h5 h6=>?_) (fun _=>qi0)
    exact Sim.finish I h6 (fun _=>rfl) (fun h=>absurd rfl h)
  | cons a1 b1 =>
   have ha:a1::b1≠[]:=List.cons_ne_nil a1 b1
   rw [YG1 (acc:=a1::b1) rfl ha]
   dsimp only [cond_true]
   generalize a1::b1=acc at *
   refine Sim.atEnd I h4 (fun hq=>?_) (fun hq=>?_)
   ·rw [decide_eq_false (show ¬ ((q':Nat):Int)<(es.length:Int) by rw [I.len];omega),cond_false]
    rw [nn (JP0 rfl ha) ⟨by trivial,by first | trivial | exact List.cons_ne_nil _ _,by trivial,by first | trivial | exact Nat.zero_le _,by simp only [List.length_cons,List.length_nil];omega,by simp only [List.length_cons,List.length_nil];omega⟩ ⟨by trivial,by trivial,by first | trivial | exact List.length_append.symm,zD0 hg (jh0 qG0)⟩]
    exact Sim.ret qs0
   ·refine Sim.has I (by omega) (fun _=>?_) (fun _=>?_) <;> dsimp only [cond_true,cond_false]
    ·refine Sim.call (qd0 _ _) (by omega) (T.dfn (by omega) true _ (by omega)) (fun a q h5 h6=>?_) (fun _=>qi0)
     exact Sim.finish I h6 (fun h=>absurd h ha) (fun _=>nn (JP0 rfl ha) ⟨by trivial,by first | trivial | exact List.cons_ne_nil _ _,by trivial,by first | trivial | exact Nat.zero_le _,by simp only [List.length_cons,List.length_nil];omega,by simp only [List.length_cons,List.length_nil];omega⟩ ⟨by trivial,by trivial,by first | trivial | exact List.length_append.symm,zD0 hg (qM0 qG0)⟩)
    ·refine Sim.call (qd0 _ _) (by omega) (T.pipe (by omega) _ (by omega)) (fun a q h5 h6=>?_) (fun _=>qi0)
     exact Sim.finish I h6 (fun h=>absurd h ha) (fun _=>nn (JP0 rfl ha) ⟨by trivial,by first | trivial | exact List.cons_ne_nil _ _,by trivial,by first | trivial | exact Nat.zero_le _,by simp only [List.length_cons,List.length_nil];omega,by simp only [List.length_cons,List.length_nil];omega⟩ ⟨by trivial,by trivial,by first | trivial | exact List.length_append.symm,zD0 hg (qM0 qG0)⟩)
end fns9
/-- THE PROGRAM'S Plain IS Jl0. -/
theorem yO1 {w:List UInt8} {n:Nat} (h:n<w.length):qf0 w (n:Int)=(w[n].toNat:Int):=by
 have h2:Int.toNat (n:Int)=n:=Int.toNat_natCast n
 unfold qf0
 rw [h2,List.getD_eq_getElem?_getD,List.getElem?_eq_getElem h]
 rfl
theorem yR1 {f:UInt8→Bool} (c:UInt8):Zh0 f (c.toNat:Int)=.ok (f c):=by
 have h:c.toNat<256:=UInt8.toNat_lt c
 unfold Zh0
 rw [decide_eq_true (show (0:Int)≤(c.toNat:Int) by omega),decide_eq_true (show (c.toNat:Int)<256 by omega)]
 have e:Int.toNat (c.toNat:Int)=c.toNat:=Int.toNat_natCast _
 rw [e,UInt8.ofNat_toNat]
 rfl
theorem QV1 {m:Nat} (hm:1≤m) (c:UInt8):(MF m).letter (c.toNat:Int)=.ok (zY0 c):=by
 obtain ⟨m,rfl⟩:∃ k,m=k+1:=⟨m-1,by omega⟩
 exact yR1 c
theorem qM2 {m:Nat} (hm:1≤m) (c:UInt8):(MF m).digit (c.toNat:Int)=.ok (Jj0 c):=by
 obtain ⟨m,rfl⟩:∃ k,m=k+1:=⟨m-1,by omega⟩
 exact yR1 c
theorem m_part {m:Nat} (hm:2≤m) (c:UInt8):(MF m).part (c.toNat:Int)=.ok (QL0 c):=by
 obtain ⟨m,rfl⟩:∃ k,m=k+1:=⟨m-1,by omega⟩
 change Qh0 PR.no PR.ok PR.er (MF m) _=_
 unfold Qh0
 rw [QV1 (by omega),qM2 (by omega)]
 change (bif zY0 c then PR.ok true else bif Jj0 c then PR.ok true else PR.ok false)=PR.ok (zY0 c||Jj0 c)
 cases zY0 c <;> cases Jj0 c <;> rfl
def Zv0 (w:List UInt8):Nat:=(w.takeWhile QL0).length
theorem m_runL (w:List UInt8) (hw:w.length≤9223372036854775807):∀ (d m n:Nat),n≤w.length→w.length-n≤d→d+4≤m→(MF m).runL w (n:Nat)=.ok (((n+Zv0 (w.drop n):Nat)):Int):=by
 intro d
 induction d with
 | zero =>
  intro m n hn hd hm
  obtain ⟨m,rfl⟩:∃ k,m=k+1:=⟨m-1,by omega⟩
  change yN0 PR.no PR.ok PR.er (MF m) w n=_
  unfold yN0
  rw [decide_eq_false (by omega),cond_false,List.drop_eq_nil_of_le (by omega)]
  rfl
 | succ d IH =>
  intro m n hn hd hm
  obtain ⟨m,rfl⟩:∃ k,m=k+1:=⟨m-1,by omega⟩
  change yN0 PR.no PR.ok PR.er (MF m) w n=_
  unfold yN0
  rcases Nat.lt_or_ge n w.length with h | h
  ·rw [decide_eq_true (by omega),cond_true,qO0 ⟨by omega,by omega⟩,yO1 h,m_part (by omega),List.drop_eq_getElem_cons h]
   dsimp only [PR.bnd,Zv0]
   rw [List.takeWhile_cons]
   cases hp:QL0 w[n] with
   | true =>
    rw [cond_true,qO0 ⟨by omega,by omega⟩]
    have h1:=IH m (n+1) (by omega) (by omega) (by omega)
    change (MF m).runL w ((n:Int)+1)=_ at h1
    rw [h1]
    dsimp only [PR.bnd,Zv0]
    rw [if_pos rfl,List.length_cons,Nat.add_right_comm,Nat.add_assoc]
   | false =>
    rw [cond_false,if_neg (by decide)]
    rfl
  ·rw [decide_eq_false (by omega),cond_false,List.drop_eq_nil_of_le (by omega)]
   rfl
theorem m_runW (w:List UInt8) (hw:w.length≤9223372036854775807) {m:Nat} (hm:w.length+5≤m):(MF m).runW w=.ok ((Zv0 w:Nat):Int):=by
 obtain ⟨m,rfl⟩:∃ k,m=k+1:=⟨m-1,by omega⟩
 change Qv0 PR.no PR.ok PR.er (MF m) w=_
 unfold Qv0
 have h:=m_runL w hw w.length m 0 (by omega) (by omega) (by omega)
 change (MF m).runL w 0=_ at h
 rw [h,Nat.zero_add,List.drop_zero]
 rfl
def YD0 (w:List UInt8):Nat:=match w with
 | []=>0
 | c::_=>bif zY0 c then Zv0 w else 0
theorem qO2 (w:List UInt8) (hw:w.length≤9223372036854775807) {m:Nat} (hm:w.length+6≤m):(MF m).simple w=.ok ((YD0 w:Nat):Int):=by
 obtain ⟨m,rfl⟩:∃ k,m=k+1:=⟨m-1,by omega⟩
 change Qx0 PR.no PR.ok PR.er (MF m) w=_
 unfold Qx0
 rw [m_runW w hw (by omega)]
 cases w with
 | nil=>rfl
 | cons c w =>
  have hb:qf0 (c::w) 0=(c.toNat:Int):=yO1 (w:=c::w) (n:=0) (by rw [List.length_cons];omega)
  rw [decide_eq_false (by intro h;cases h),cond_false,qO0 ⟨by omega,by rw [List.length_cons];omega⟩,hb,QV1 (by omega)]
  dsimp only [PR.bnd,YD0]
  cases zY0 c <;> rfl
theorem qs2 (w:List UInt8):decide (((Zv0 w:Nat):Int)=(w.length:Int))=w.all QL0:=by
 induction w with
 | nil=>rfl
 | cons c w IH =>
  unfold Zv0 at IH ⊢
  rw [List.takeWhile_cons,List.all_cons]
  cases hp:QL0 c with
  | true =>
   rw [Bool.true_and,← IH,if_pos rfl,List.length_cons,List.length_cons]
   apply decide_eq_decide.2
   omega
  | false =>
   rw [Bool.false_and,if_neg (by decide),List.length_nil,List.length_cons]
   exact decide_eq_false (by omega)
theorem Qu2 (c:UInt8) (w:List UInt8):decide (((YD0 (c::w):Nat):Int)=((c::w).length:Int))=(zY0 c&&(c::w).all QL0):=by
 have h:=qs2 (c::w)
 rcases hc:zY0 c with _ | _
 ·have e:YD0 (c::w)=0:=by unfold YD0;dsimp only;rw [hc];rfl
  rw [e,Bool.false_and,List.length_cons]
  exact decide_eq_false (by omega)
 ·have e:YD0 (c::w)=Zv0 (c::w):=by unfold YD0;dsimp only;rw [hc];rfl
  rw [e,Bool.true_and]
  exact h
theorem ZC1:JS0:=by
 intro m w hw hm
 obtain ⟨m,rfl⟩:∃ k,m=k+1:=⟨m-1,by omega⟩
 change Ql0 PR.no PR.ok PR.er (MF m) w=_
 unfold Ql0
 rw [qO2 w hw (by omega),QX1 (by omega)]
 cases w with
 | nil=>rfl
 | cons c w =>
  rw [decide_eq_false (by intro h;cases h),Bool.not_false,cond_true]
  dsimp only [PR.bnd]
  rw [Qu2 c w]
  change _=PR.ok (zY0 c&&(c::w).all QL0&&!Jk0 (c::w))
  cases (zY0 c&&(c::w).all QL0) <;> cases Jk0 (c::w) <;> rfl
/-- WHERE A RUN LOOKS, and that it ends. -/
def plc:PR (Nd×Nat) Nat→Nat
 | .ok a=>a.2
 | .er e=>e
 | .no=>0
theorem jj2 {rec rec':NT→Nat→Option (PR (Nd×Nat) Nat)} {l l':List (Int×List UInt8)} (hr:yK0 rec l) (h:∀ x p r,rec x p=some r→p≤l.length→(∀ i,i≤plc r→l[i]?=l'[i]?)→rec' x p=some r) (pg:Pg):∀ p r,qr0 rec l pg p=some r→p≤l.length→(∀ i,i≤plc r→l[i]?=l'[i]?)→qr0 rec' l' pg p=some r:=by
 induction pg with
 | ret n=>intro p r h0 _ _;exact h0
 | err=>intro p r h0 _ _;exact h0
 | stop=>intro p r h0 _ _;exact h0
 | look f IH =>
  intro p r h0 hp ha
  have hle:p≤plc r:=by
   have:=YB0 hr (.look f) p r h0 hp
   cases r with
   | ok a=>exact this.1
   | er e=>exact this.1
   | no=>exact this.elim
  change qr0 rec' l' (f l'[p]?) p=some r
  rw [← ha p hle]
  exact IH _ p r h0 hp ha
 | adv k IH =>
  intro p r h0 hp ha
  have h1:=h0
  unfold qr0 at h1
  by_cases hl:p<l.length
  ·rw [if_pos hl] at h1
   have hle:p+1≤plc r:=by
    have:=YB0 hr k (p+1) r h1 (by omega)
    cases r with
    | ok a=>exact this.1
    | er e=>exact this.1
    | no=>exact this.elim
   have hl':p<l'.length:=by
    rcases Nat.lt_or_ge p l'.length with h2 | h2
    ·exact h2
    ·have h3:=ha p (by omega)
     rw [List.getElem?_eq_none h2,List.getElem?_eq_getElem hl] at h3
     cases h3
   unfold qr0
   rw [if_pos hl']
   exact IH (p+1) r h1 (by omega) ha
  ·rw [if_neg hl] at h1;cases h1
 | call x f IH =>
  intro p r h0 hp ha
  have h1:=h0
  unfold qr0 at h1
  cases hx:rec x p with
  | none=>rw [hx] at h1;cases h1
  | some q =>
   rw [hx] at h1
   have hq:=hr x p q hx hp
   cases q with
   | ok a =>
    have h2:=YB0 hr (f a.1) a.2 r h1 hq.2
    have hle:a.2≤plc r:=by
     cases r with
     | ok b=>exact h2.1
     | er e=>exact h2.1
     | no=>exact h2.elim
    unfold qr0
    rw [h x p _ hx hp (fun i hi=>ha i (Nat.le_trans hi hle))]
    exact IH a.1 a.2 r h1 hq.2 ha
   | er e =>
    cases h1
    unfold qr0
    rw [h x p _ hx hp ha]
   | no=>exact hq.elim
theorem ZS1 {l l':List (Int×List UInt8)} (n:Nat):∀ x p r,qb0 l n x p=some r→p≤l.length→(∀ i,i≤plc r→l[i]?=l'[i]?)→qb0 l' n x p=some r:=by
 induction n with
 | zero=>intro x p r h;cases h
 | succ n IH=>intro x p r h hp ha;exact jj2 (qd0 l n) IH (Pg.body x) p r h hp ha
def nc:NT→Bool
 | .rows one _ _=>nc one
 | .exp _ | .operand | .post | .term | .text | .textF _ | .plain | .bring | .dfn _ | .within _ _ | .param | .key | .pair | .value | .unit | .keyPat | .pattern | .callw | .paren | .ifsL _ | .ifs | .reduce | .each | .array | .object=>true
 | _=>false
def Gt (rec:NT→Nat→Option (PR (Nd×Nat) Nat)) (l:List (Int×List UInt8)) (pg:Pg) (p p0:Nat):Prop:=∀ a,qr0 rec l pg p=some (.ok a)→p0<a.2
section gt
variable {rec:NT→Nat→Option (PR (Nd×Nat) Nat)} {l:List (Int×List UInt8)} {p:Nat} (hr:yK0 rec l)
theorem Gt.err {p0:Nat}:Gt rec l .err p p0:=fun a h=>by cases h
theorem Gt.look {f:Option (Int×List UInt8)→Pg} {p0:Nat} (h:Gt rec l (f l[p]?) p p0):Gt rec l (.look f) p p0:=h
theorem Gt.cond {b:Bool} {x y:Pg} {p0:Nat} (h:Gt rec l x p p0) (h':Gt rec l y p p0):Gt rec l (bif b then x else y) p p0:=by
 cases b
 ·exact h'
 ·exact h
 include hr
theorem Gt.adv {k:Pg}:Gt rec l (.adv k) p p:=fun a h=>by
 unfold qr0 at h
 by_cases hl:p<l.length
 ·rw [if_pos hl] at h
  exact (YB0 hr k (p+1) _ h (by omega)).1
 ·rw [if_neg hl] at h;cases h
theorem Gt.call {x:NT} {f:Nd→Pg} (hp:p≤l.length) (hx:∀ a,rec x p=some (.ok a)→p<a.2):Gt rec l (.call x f) p p:=fun a h=>by
 unfold qr0 at h
 cases hq:rec x p with
 | none=>rw [hq] at h;cases h
 | some q =>
  rw [hq] at h
  cases q with
  | ok b=>exact Nat.lt_of_lt_of_le (hx b hq) (YB0 hr (f b.1) b.2 _ h (hr x p _ hq hp).2).1
  | er e=>cases h
  | no=>cases h
theorem Gt.has {s:List UInt8} {x y:Pg} (h:Gt rec l y p p):Gt rec l (Pg.has s x y) p p:=Gt.look (Gt.cond (Gt.adv hr) h)
theorem Gt.need {s:List UInt8} {x:Pg}:Gt rec l (Pg.need s x) p p:=Gt.look (Gt.cond (Gt.adv hr) Gt.err)
theorem Gt.take {c:Int} {f:List UInt8→Pg}:Gt rec l (Pg.take c f) p p:=by
 refine Gt.look ?_
 cases l[p]? with
 | none=>exact Gt.err
 | some t=>exact Gt.cond (Gt.adv hr) Gt.err
theorem Gt.name {f:List UInt8→Pg}:Gt rec l (Pg.name f) p p:=by
 refine Gt.look ?_
 cases l[p]? with
 | none=>exact Gt.err
 | some t=>exact Gt.cond (Gt.adv hr) Gt.err
end gt
theorem JR1 (l:List (Int×List UInt8)) (n:Nat):∀ x p,nc x=true→p≤l.length→∀ a,qb0 l n x p=some (.ok a)→p<a.2:=by
 induction n with
 | zero=>intro x p _ _ a h;cases h
 | succ n IH =>
  intro x p hx hp
  have hr:=qd0 l n
  change Gt (qb0 l n) l (Pg.body x) p p
  have C:∀ {y f},nc y=true→Gt (qb0 l n) l (.call y f) p p:=fun hy=>Gt.call hr hp (IH _ p hy hp)
  have W:∀ w no,Gt (qb0 l n) l no p p→Gt (qb0 l n) l (Pg.byWord w no) p p:=fun w no h=>Gt.cond (Gt.adv hr) (Gt.cond (Gt.adv hr) (Gt.cond (Gt.adv hr) (Gt.cond (Gt.adv hr) (Gt.cond (Gt.adv hr) (Gt.cond (Gt.adv hr) (Gt.cond (Gt.adv hr) (Gt.cond (Gt.adv hr) (Gt.cond (Gt.adv hr) h))))))))
  cases x with
  | exp _=>exact C rfl
  | operand=>exact Gt.has hr (Gt.has hr (Gt.has hr (Gt.has hr (C rfl))))
  | post=>exact C rfl
  | term =>
   refine Gt.look ?_
   cases l[p]? with
   | none=>exact Gt.err
   | some t=>exact Gt.cond (Gt.adv hr) (Gt.cond (Gt.adv hr) (Gt.cond (Gt.adv hr) (Gt.cond (C rfl) (Gt.cond (Gt.adv hr) (Gt.cond (W _ _ (Gt.cond Gt.err (C rfl))) (Gt.cond (W _ _ Gt.err) Gt.err))))))
  | text=>exact Gt.look (Gt.cond (Gt.take hr) (Gt.take hr))
  | textF _=>exact Gt.take hr
  | plain=>exact Gt.take hr
  | bring=>exact Gt.take hr
  | dfn _=>exact Gt.name hr
  | within _ _=>exact Gt.need hr
  | param=>exact Gt.look (Gt.cond (Gt.take hr) (Gt.name hr))
  | key=>exact Gt.look (Gt.cond (Gt.take hr) (Gt.cond (Gt.take hr) (Gt.cond (C rfl) (Gt.need hr))))
  | pair=>exact C rfl
  | value=>exact C rfl
  | unit=>exact Gt.has hr (C rfl)
  | keyPat=>exact C rfl
  | pattern=>exact Gt.look (Gt.cond (Gt.take hr) (Gt.has hr (Gt.need hr)))
  | callw=>exact Gt.take hr
  | paren=>exact C rfl
  | ifsL _=>exact C rfl
  | ifs=>exact C rfl
  | reduce=>exact C rfl
  | each=>exact C rfl
  | array=>exact Gt.has hr (C rfl)
  | object=>exact Gt.has hr (C rfl)
  | rows one _ _=>exact C hx
  | expL _ _ _=>cases hx
  | root=>cases hx
  | postL _=>cases hx
  | rest _=>cases hx
  | rowsL _ _ _ _=>cases hx
  | textL _=>cases hx
  | plainL _=>cases hx
  | progL _=>cases hx
  | program=>cases hx
/-- EVERY RUN ENDS. -/
theorem GA0 {l:List (Int×List UInt8)} {n m:Nat} (h:n≤m) {x:NT} {p:Nat} {r:PR (Nd×Nat) Nat} (hr:qb0 l n x p=some r):qb0 l m x p=some r:=by
 induction h with
 | refl=>exact hr
 | step _ IH=>exact ZT1 l _ x p r IH
def EndsG (l:List (Int×List UInt8)) (x:NT) (p:Nat):Prop:=∃ n r,qb0 l n x p=some r
def ExP (l:List (Int×List UInt8)) (pg:Pg) (p:Nat):Prop:=∃ n r,qr0 (qb0 l n) l pg p=some r
section ex
variable {l:List (Int×List UInt8)} {p:Nat}
theorem EndsG.of {x:NT} (h:ExP l (Pg.body x) p):EndsG l x p:=let ⟨n,r,h⟩:=h;⟨n+1,r,h⟩
theorem ExP.ret {n:Nd}:ExP l (.ret n) p:=⟨0,_,rfl⟩
theorem ExP.err:ExP l .err p:=⟨0,_,rfl⟩
theorem ExP.look {f:Option (Int×List UInt8)→Pg} (h:ExP l (f l[p]?) p):ExP l (.look f) p:=h
theorem ExP.adv {k:Pg} (hp:p<l.length) (h:ExP l k (p+1)):ExP l (.adv k) p:=by
 obtain ⟨n,r,h⟩:=h
 refine ⟨n,r,?_⟩
 unfold qr0
 rw [if_pos hp]
 exact h
theorem ExP.call {x:NT} {f:Nd→Pg} (hp:p≤l.length) (hx:EndsG l x p) (hf:∀ a q,(nc x=true→p<q)→p≤q→q≤l.length→ExP l (f a) q):ExP l (.call x f) p:=by
 obtain ⟨n,r,h⟩:=hx
 have hpos:=qd0 l n x p r h hp
 cases r with
 | ok a =>
  obtain ⟨m,s,h2⟩:=hf a.1 a.2 (fun hc=>JR1 l n x p hc hp a h) hpos.1 hpos.2
  refine ⟨max n m,s,?_⟩
  unfold qr0
  rw [GA0 (Nat.le_max_left n m) h]
  exact zX1 (fun _ _ _ hh=>GA0 (Nat.le_max_right n m) hh) _ _ _ h2
 | er e =>
  refine ⟨n,.er e,?_⟩
  unfold qr0
  rw [h]
 | no=>exact hpos.elim
theorem ExP.cond {b:Bool} {x y:Pg} (h:b=true→ExP l x p) (h':b=false→ExP l y p):ExP l (bif b then x else y) p:=by
 cases b with
 | true=>exact h rfl
 | false=>exact h' rfl
theorem ExP.is {s:List UInt8} {f:Bool→Pg} (h:∀ b,(b=true→p<l.length)→ExP l (f b) p):ExP l (Pg.is s f) p:=h (isB s l[p]?) Qv1
theorem ExP.has {s:List UInt8} {a b:Pg} (h:p<l.length→ExP l a (p+1)) (h':ExP l b p):ExP l (Pg.has s a b) p:=by
 refine ExP.is fun b hb=>?_
 cases b with
 | true=>exact ExP.adv (hb rfl) (h (hb rfl))
 | false=>exact h'
theorem JL0 {t:Int×List UInt8} (h:l[p]?=some t):p<l.length:=by
 rcases Nat.lt_or_ge p l.length with h1 | h1
 ·exact h1
 ·rw [List.getElem?_eq_none h1] at h;cases h
theorem ExP.take {c:Int} {f:List UInt8→Pg} (h:∀ w,l[p]?=some (c,w)→p<l.length→ExP l (f w) (p+1)):ExP l (Pg.take c f) p:=by
 refine ExP.look ?_
 cases ht:l[p]? with
 | none=>exact ExP.err
 | some t =>
  obtain ⟨k,w⟩:=t
  refine ExP.cond (fun hk=>?_) (fun _=>ExP.err)
  cases of_decide_eq_true hk
  exact ExP.adv (JL0 ht) (h w ht (JL0 ht))
theorem ExP.name {f:List UInt8→Pg} (h:∀ w,p<l.length→ExP l (f w) (p+1)):ExP l (Pg.name f) p:=by
 refine ExP.look ?_
 cases ht:l[p]? with
 | none=>exact ExP.err
 | some t=>exact ExP.cond (fun _=>ExP.adv (JL0 ht) (h _ (JL0 ht))) (fun _=>ExP.err)
theorem ExP.tail {w:List UInt8} {f:List UInt8→Pg} (hw:w≠[]) (h:∀ v,ExP l (f v) p):ExP l (Pg.tail w f) p:=by
 cases w with
 | nil=>exact absurd rfl hw
 | cons c v=>exact h v
theorem ExP.atEnd {a b:Pg} (h:ExP l a p) (h':ExP l b p):ExP l (Pg.atEnd a b) p:=by
 refine ExP.look ?_
 cases l[p]? with
 | none=>exact h
 | some t=>exact h'
end ex
def rank:NT→Nat
 | .rows one _ _=>rank one+1
 | .term=>1 | .root=>1 | .key=>1 | .post=>2 | .operand=>3 | .exp _=>4 | .unit=>3 | .value=>4 | .pair=>2 | .keyPat=>2 | .ifsL _=>5 | .ifs=>6 | .reduce=>3 | .each=>3 | .array=>5 | .paren=>5 | .rest _=>5 | .object=>4 | .postL _=>1 | .progL _=>1 | .program=>6
 | _=>0
def JT0 (l:List (Int×List UInt8)):Prop:=∀ (p:Nat) (w:List UInt8),(l[p]?=some ((4:Int),w)∨l[p]?=some ((5:Int),w))→w≠[]
abbrev Hyp (l:List (Int×List UInt8)) (r p:Nat):Prop:=∀ y q,p≤q→q≤l.length→(p<q∨rank y<r)→EndsG l y q
theorem KE0 {l:List (Int×List UInt8)} (hT:JT0 l) {p:Nat} (hp:p≤l.length) (x:NT) (H:Hyp l (rank x) p):ExP l (Pg.body x) p:=by
 cases x with
 | expL L c n =>
  refine ExP.look ?_
  cases ht:l[p]? with
  | none=>exact ExP.ret
  | some t =>
   have hl:=JL0 ht
   refine ExP.cond (fun _=>ExP.ret) (fun _=>ExP.cond (fun _=>ExP.ret) (fun _=>ExP.cond (fun _=>ExP.err) (fun _=>ExP.adv hl ?_)))
   (repeat' first | exact ExP.ret | (refine ExP.call (by omega) (H _ _ (by omega) (by omega) (by first | exact .inl (by omega) | exact .inr (by decide) | exact .inr (Nat.lt_succ_self _) | exact .inr (Nat.succ_pos _))) (fun a q hc h1 h2=>?_);first | (have hd:=hc rfl;clear hc) | skip))
 | term =>
  refine ExP.look ?_
  cases ht:l[p]? with
  | none=>exact ExP.err
  | some t =>
   obtain ⟨k,w⟩:=t
   have hl:=JL0 ht
   have W:∀ no,ExP l no p→ExP l (Pg.byWord w no) p:=by
    intro no hno
    unfold Pg.byWord
    refine ExP.cond (fun _=>ExP.adv hl ExP.ret) (fun _=>?_)
    refine ExP.cond (fun _=>ExP.adv hl ?_) (fun _=>?_)
    ·unfold Pg.call1;(repeat' first | exact ExP.ret | (refine ExP.call (by omega) (H _ _ (by omega) (by omega) (by first | exact .inl (by omega) | exact .inr (by decide) | exact .inr (Nat.lt_succ_self _) | exact .inr (Nat.succ_pos _))) (fun a q hc h1 h2=>?_);first | (have hd:=hc rfl;clear hc) | skip))
    refine ExP.cond (fun _=>ExP.adv hl ?_) (fun _=>?_)
    ·unfold Pg.call1;(repeat' first | exact ExP.ret | (refine ExP.call (by omega) (H _ _ (by omega) (by omega) (by first | exact .inl (by omega) | exact .inr (by decide) | exact .inr (Nat.lt_succ_self _) | exact .inr (Nat.succ_pos _))) (fun a q hc h1 h2=>?_);first | (have hd:=hc rfl;clear hc) | skip))
    refine ExP.cond (fun _=>ExP.adv hl ?_) (fun _=>?_)
    ·unfold Pg.call1;(repeat' first | exact ExP.ret | (refine ExP.call (by omega) (H _ _ (by omega) (by omega) (by first | exact .inl (by omega) | exact .inr (by decide) | exact .inr (Nat.lt_succ_self _) | exact .inr (Nat.succ_pos _))) (fun a q hc h1 h2=>?_);first | (have hd:=hc rfl;clear hc) | skip))
    refine ExP.cond (fun _=>ExP.adv hl ?_) (fun _=>?_)
    ·unfold Pg.call1;(repeat' first | exact ExP.ret | (refine ExP.call (by omega) (H _ _ (by omega) (by omega) (by first | exact .inl (by omega) | exact .inr (by decide) | exact .inr (Nat.lt_succ_self _) | exact .inr (Nat.succ_pos _))) (fun a q hc h1 h2=>?_);first | (have hd:=hc rfl;clear hc) | skip))
    refine ExP.cond (fun _=>ExP.adv hl ?_) (fun _=>?_)
    ·unfold Pg.call1;(repeat' first | exact ExP.ret | (refine ExP.call (by omega) (H _ _ (by omega) (by omega) (by first | exact .inl (by omega) | exact .inr (by decide) | exact .inr (Nat.lt_succ_self _) | exact .inr (Nat.succ_pos _))) (fun a q hc h1 h2=>?_);first | (have hd:=hc rfl;clear hc) | skip))
    refine ExP.cond (fun _=>ExP.adv hl ?_) (fun _=>?_)
    ·unfold Pg.call1;(repeat' first | exact ExP.ret | (refine ExP.call (by omega) (H _ _ (by omega) (by omega) (by first | exact .inl (by omega) | exact .inr (by decide) | exact .inr (Nat.lt_succ_self _) | exact .inr (Nat.succ_pos _))) (fun a q hc h1 h2=>?_);first | (have hd:=hc rfl;clear hc) | skip))
    refine ExP.cond (fun _=>ExP.adv hl ?_) (fun _=>?_)
    ·unfold Pg.call1;(repeat' first | exact ExP.ret | (refine ExP.call (by omega) (H _ _ (by omega) (by omega) (by first | exact .inl (by omega) | exact .inr (by decide) | exact .inr (Nat.lt_succ_self _) | exact .inr (Nat.succ_pos _))) (fun a q hc h1 h2=>?_);first | (have hd:=hc rfl;clear hc) | skip))
    refine ExP.cond (fun _=>ExP.adv hl ?_) (fun _=>hno)
    unfold Pg.one1
    (repeat' first | exact ExP.ret | refine ExP.take (fun w hw _=>?_) | (refine ExP.tail (hT _ _ (by first | exact .inl (by assumption) | exact .inr (by assumption))) (fun v=>?_)))
   refine ExP.cond (fun hk=>?_) (fun _=>?_)
   ·cases of_decide_eq_true hk
    exact ExP.adv hl (ExP.tail (hT p w (.inl ht)) fun _=>ExP.ret)
   refine ExP.cond (fun hk=>?_) (fun _=>?_)
   ·cases of_decide_eq_true hk
    exact ExP.adv hl (ExP.tail (hT p w (.inr ht)) fun _=>ExP.ret)
   refine ExP.cond (fun _=>ExP.adv hl ExP.ret) (fun _=>?_)
   unfold Pg.call1
   refine ExP.cond (fun _=>?_) (fun _=>?_)
   ·(repeat' first | exact ExP.ret | (refine ExP.call (by omega) (H _ _ (by omega) (by omega) (by first | exact .inl (by omega) | exact .inr (by decide) | exact .inr (Nat.lt_succ_self _) | exact .inr (Nat.succ_pos _))) (fun a q hc h1 h2=>?_);first | (have hd:=hc rfl;clear hc) | skip))
   refine ExP.cond (fun _=>ExP.adv hl ?_) (fun _=>?_)
   ·(repeat' first | exact ExP.ret | (refine ExP.call (by omega) (H _ _ (by omega) (by omega) (by first | exact .inl (by omega) | exact .inr (by decide) | exact .inr (Nat.lt_succ_self _) | exact .inr (Nat.succ_pos _))) (fun a q hc h1 h2=>?_);first | (have hd:=hc rfl;clear hc) | skip) | refine ExP.cond (fun _=>?_) (fun _=>?_))
   refine ExP.cond (fun _=>W _ ?_) (fun _=>?_)
   ·(repeat' first | exact ExP.ret | exact ExP.err | (refine ExP.call (by omega) (H _ _ (by omega) (by omega) (by first | exact .inl (by omega) | exact .inr (by decide) | exact .inr (Nat.lt_succ_self _) | exact .inr (Nat.succ_pos _))) (fun a q hc h1 h2=>?_);first | (have hd:=hc rfl;clear hc) | skip) | refine ExP.cond (fun _=>?_) (fun _=>?_))
   exact ExP.cond (fun _=>W _ ExP.err) (fun _=>ExP.err)
 | program =>
  refine ExP.call hp (H _ _ (Nat.le_refl p) hp (.inr (by decide))) (fun a q _ h1 h2=>?_)
  simp only [Pg.finish]
  cases a.ks with
  | nil=>dsimp only;(repeat' first | exact ExP.ret | exact ExP.err | refine ExP.has (fun _=>?_) ?_ | refine ExP.atEnd ?_ ?_ | (refine ExP.call (by omega) (H _ _ (by omega) (by omega) (by first | exact .inl (by omega) | exact .inr (by decide) | exact .inr (Nat.lt_succ_self _) | exact .inr (Nat.succ_pos _))) (fun a q hc h1 h2=>?_);first | (have hd:=hc rfl;clear hc) | skip))
  | cons b c=>dsimp only;(repeat' first | exact ExP.ret | exact ExP.err | refine ExP.has (fun _=>?_) ?_ | refine ExP.atEnd ?_ ?_ | (refine ExP.call (by omega) (H _ _ (by omega) (by omega) (by first | exact .inl (by omega) | exact .inr (by decide) | exact .inr (Nat.lt_succ_self _) | exact .inr (Nat.succ_pos _))) (fun a q hc h1 h2=>?_);first | (have hd:=hc rfl;clear hc) | skip))
 | _=>simp only [Pg.body,Pg.call1,Pg.source,Pg.textQ,Pg.pipe] <;> (repeat' first | exact ExP.ret | exact ExP.err | refine ExP.has (fun _=>?_) ?_ | refine ExP.take (fun w hw _=>?_) | refine ExP.name (fun w _=>?_) | refine ExP.atEnd ?_ ?_ | refine ExP.is (fun b _=>?_) | (refine ExP.tail (hT _ _ (by first | exact .inl (by assumption) | exact .inr (by assumption))) (fun v=>?_)) | (refine ExP.call (by omega) (H _ _ (by omega) (by omega) (by first | exact .inl (by omega) | exact .inr (by decide) | exact .inr (Nat.lt_succ_self _) | exact .inr (Nat.succ_pos _))) (fun a q hc h1 h2=>?_);first | (have hd:=hc rfl;clear hc) | skip) | refine ExP.cond (fun _=>?_) (fun _=>?_))
theorem ex_all {l:List (Int×List UInt8)} (hT:JT0 l) (d:Nat):∀ p,p≤l.length→l.length-p≤d→∀ r x,rank x≤r→EndsG l x p:=by
 induction d with
 | zero =>
  intro p hp hd r
  induction r with
  | zero=>exact fun x hx=>EndsG.of (KE0 hT hp x fun y q h1 h2 h3=>absurd h3 (by omega))
  | succ r IH =>
   refine fun x hx=>EndsG.of (KE0 hT hp x fun y q h1 h2 h3=>?_)
   have e:q=p:=by omega
   subst e
   exact IH y (by omega)
 | succ d ID =>
  intro p hp hd r
  induction r with
  | zero=>exact fun x hx=>EndsG.of (KE0 hT hp x fun y q h1 h2 h3=>ID q h2 (by omega) _ y (Nat.le_refl _))
  | succ r IH =>
   refine fun x hx=>EndsG.of (KE0 hT hp x fun y q h1 h2 h3=>?_)
   by_cases e:p<q
   ·exact ID q h2 (by omega) _ y (Nat.le_refl _)
   ·have e:q=p:=by omega
    subst e
    exact IH y (by omega)
theorem ends (l:List (Int×List UInt8)) (hT:JT0 l) (x:NT) (p:Nat) (hp:p≤l.length):∃ n r,qb0 l n x p=some r:=ex_all hT _ p hp (Nat.le_refl _) _ x (Nat.le_refl _)
structure T4 (es:List V) (l:List (Int×List UInt8)) (n:Nat):Prop extends T3 es l n where
 textF:∀ {m},12*n+wid l+12≤m→∀ w p,l[p]?=some (12,w)→p<l.length→∀ r,qb0 l n (.textF w) (p+1)=some r→(MF m).N 74 es (p:Nat)=qB0 r
 progL:∀ {m},12*n+wid l+12≤m→∀ v len acc p,p≤l.length→len=acc.length→len≤2*p+2→GndR acc→∀ r,qb0 l n (.progL acc) p=some r→ER r ((MF m).progL es v len acc (p:Nat))
 program:∀ {m},12*n+wid l+12≤m→∀ p,p≤l.length→∀ r,qb0 l n .program p=some r→(MF m).N 26 es (p:Nat)=qB0 r
theorem t_zero (es:List V) (l:List (Int×List UInt8)):T4 es l 0:=by
 refine { toT3:={ toT2:={ toT1:=?_,textL:=?_,plainL:=?_,ifsL:=?_ },one:=?_,rows:=?_,key:=?_,rowsL:=?_ },textF:=?_,progL:=?_,program:=?_ }
 ·constructor <;> (intros;rename_i h;cases h)
 all_goals (intros;rename_i h;cases h)
theorem t_step {es:List V} {l:List (Int×List UInt8)} {n:Nat} (I:Items es l) (HP:JS0) (X:T4 es l n):T4 es l (n+1):=by
 have A:T1 es l (n+1):=by
  refine {
   exp:=fun {m} hm L p hp r hr=>by
    obtain ⟨k,rfl⟩:∃ k,m=k+1:=⟨m-1,by omega⟩;exact t_exp I X.toT3.toT2.toT1 (by omega) hp L r hr,
   expL:=fun {m} hm L c k0 p hp r hr=>by
    obtain ⟨k,rfl⟩:∃ k,m=k+1:=⟨m-1,by omega⟩;exact t_expL I X.toT3.toT2.toT1 (by omega) hp L c k0 r hr,
   operand:=fun {m} hm  p hp r hr=>by
    obtain ⟨k,rfl⟩:∃ k,m=k+1:=⟨m-1,by omega⟩;exact Zj2 I X.toT3.toT2.toT1 (by omega) hp r hr,
   post:=fun {m} hm  p hp r hr=>by
    obtain ⟨k,rfl⟩:∃ k,m=k+1:=⟨m-1,by omega⟩;exact t_post I X.toT3.toT2.toT1 (by omega) hp r hr,
   postL:=fun {m} hm k0 p hp r hr=>by
    obtain ⟨k,rfl⟩:∃ k,m=k+1:=⟨m-1,by omega⟩;exact Zp2 I X.toT3.toT2.toT1 (by omega) hp k0 r hr,
   term:=fun {m} hm  p hp r hr=>by
    obtain ⟨k,rfl⟩:∃ k,m=k+1:=⟨m-1,by omega⟩;exact t_term I X.toT3 X.textF (by omega) hp r hr,
   text:=fun {m} hm  p hp r hr=>by
    obtain ⟨k,rfl⟩:∃ k,m=k+1:=⟨m-1,by omega⟩;exact t_text I X.toT3.toT2 (by omega) hp r hr,
   plain:=fun {m} hm  p hp r hr=>by
    obtain ⟨k,rfl⟩:∃ k,m=k+1:=⟨m-1,by omega⟩;exact Zn2 I X.toT3.toT2 (by omega) hp r hr,
   bring:=fun {m} hm  p hp r hr=>by
    obtain ⟨k,rfl⟩:∃ k,m=k+1:=⟨m-1,by omega⟩;exact Zf2 I X.toT3 HP (by omega) hp r hr,
   root:=fun {m} hm  p hp r hr=>by
    obtain ⟨k,rfl⟩:∃ k,m=k+1:=⟨m-1,by omega⟩;exact t_root I X.toT3.toT2.toT1 (by omega) hp r hr,
   array:=fun {m} hm  p hp r hr=>by
    obtain ⟨k,rfl⟩:∃ k,m=k+1:=⟨m-1,by omega⟩;exact Ze2 I X.toT3.toT2.toT1 (by omega) hp r hr,
   paren:=fun {m} hm  p hp r hr=>by
    obtain ⟨k,rfl⟩:∃ k,m=k+1:=⟨m-1,by omega⟩;exact Zl2 I X.toT3.toT2.toT1 (by omega) hp r hr,
   object:=fun {m} hm  p hp r hr=>by
    obtain ⟨k,rfl⟩:∃ k,m=k+1:=⟨m-1,by omega⟩;exact Zi2 I X.toT3 (by omega) hp r hr,
   ifs:=fun {m} hm  p hp r hr=>by
    obtain ⟨k,rfl⟩:∃ k,m=k+1:=⟨m-1,by omega⟩;exact t_ifs I X.toT3.toT2 (by omega) hp r hr,
   reduce:=fun {m} hm  p hp r hr=>by
    obtain ⟨k,rfl⟩:∃ k,m=k+1:=⟨m-1,by omega⟩;exact Zs2 I X.toT3.toT2.toT1 (by omega) hp r hr,
   each:=fun {m} hm  p hp r hr=>by
    obtain ⟨k,rfl⟩:∃ k,m=k+1:=⟨m-1,by omega⟩;exact t_each I X.toT3.toT2.toT1 (by omega) hp r hr,
   callw:=fun {m} hm  p hp r hr=>by
    obtain ⟨k,rfl⟩:∃ k,m=k+1:=⟨m-1,by omega⟩;exact Zg2 I X.toT3 (by omega) hp r hr,
   pair:=fun {m} hm  p hp r hr=>by
    obtain ⟨k,rfl⟩:∃ k,m=k+1:=⟨m-1,by omega⟩;exact t_pair I X.toT3 (by omega) hp r hr,
   value:=fun {m} hm  p hp r hr=>by
    obtain ⟨k,rfl⟩:∃ k,m=k+1:=⟨m-1,by omega⟩;exact Zw2 I X.toT3.toT2.toT1 (by omega) hp r hr,
   unit:=fun {m} hm  p hp r hr=>by
    obtain ⟨k,rfl⟩:∃ k,m=k+1:=⟨m-1,by omega⟩;exact t_unit I X.toT3.toT2.toT1 (by omega) hp r hr,
   keyPat:=fun {m} hm  p hp r hr=>by
    obtain ⟨k,rfl⟩:∃ k,m=k+1:=⟨m-1,by omega⟩;exact Zh2 I X.toT3 (by omega) hp r hr,
   pattern:=fun {m} hm  p hp r hr=>by
    obtain ⟨k,rfl⟩:∃ k,m=k+1:=⟨m-1,by omega⟩;exact Zm2 I X.toT3 (by omega) hp r hr,
   dfn:=fun {m} hm b p hp r hr=>by
    obtain ⟨k,rfl⟩:∃ k,m=k+1:=⟨m-1,by omega⟩
    cases b with
    | true=>exact t_dfnT I X.toT3 HP (by omega) hp r hr
    | false=>exact t_dfnF I X.toT3 HP (by omega) hp r hr,
   rest:=fun {m} hm b p hp r hr=>by
    obtain ⟨k,rfl⟩:∃ k,m=k+1:=⟨m-1,by omega⟩;exact t_rest I X.toT3.toT2.toT1 (by omega) hp b r hr,
   within:=fun {m} hm k0 d p hp r hr=>by
    obtain ⟨k,rfl⟩:∃ k,m=k+1:=⟨m-1,by omega⟩;exact Zx2 I X.toT3.toT2.toT1 (by omega) hp k0 d r hr }
 have B:T2 es l (n+1):=by
  refine {
   toT1:=A,
   textL:=fun {m} hm t v len acc p hp hl hb hg r hr=>by
    obtain ⟨k,rfl⟩:∃ k,m=k+1:=⟨m-1,by omega⟩;exact Zv2 I X.toT3.toT2 (by omega) hp t v len acc hl hb hg r hr,
   plainL:=fun {m} hm v len acc p hp hl hb hg r hr=>by
    obtain ⟨k,rfl⟩:∃ k,m=k+1:=⟨m-1,by omega⟩;exact Zo2 I X.toT3.toT2 (by omega) hp v len acc hl hb hg r hr,
   ifsL:=fun {m} hm v len acc p hp hl hb hg r hr=>by
    obtain ⟨k,rfl⟩:∃ k,m=k+1:=⟨m-1,by omega⟩;exact t_ifsL I X.toT3.toT2 (by omega) hp v len acc hl hb hg r hr }
 have C:T3 es l (n+1):=by
  refine {
   toT2:=B,
   one:=?_,
   rows:=fun {x i} hc {m} hm a b p hp r hr=>by
    obtain ⟨k,rfl⟩:∃ k,m=k+1:=⟨m-1,by omega⟩;have h:=t_rows (m:=k) I X.toT3 (by omega) hp hc a b r hr;cases hc <;> exact h,
   key:=fun {m} hm p hp r hr=>by
    obtain ⟨k,rfl⟩:∃ k,m=k+1:=⟨m-1,by omega⟩;exact t_key I X.toT3 (by omega) hp r hr,
   rowsL:=fun {x i} hc {m} hm a b v len acc p hp hl hb hg r hr=>by
    obtain ⟨k,rfl⟩:∃ k,m=k+1:=⟨m-1,by omega⟩;have h:=Zt2 (m:=k) I X.toT3 (by omega) hp hc a b v len acc hl hb hg r hr;cases hc <;> exact h }
  intro x i hc m hm p hp r hr
  cases hc with
  | param=>obtain ⟨k,rfl⟩:∃ k,m=k+1:=⟨m-1,by omega⟩;exact Zk2 I X.toT3 HP (by omega) hp r hr
  | pair=>exact A.pair (by omega) p hp r hr
  | pipe=>exact A.pipe (by omega) p hp r hr
  | keyPat=>exact A.keyPat (by omega) p hp r hr
  | pattern=>exact A.pattern (by omega) p hp r hr
 exact {
  toT3:=C,
  textF:=fun {m} hm w p hw hl r hr=>by
   obtain ⟨k,rfl⟩:∃ k,m=k+1:=⟨m-1,by omega⟩;have hp:p≤l.length:=by omega
   exact Zu2 I X.toT3 (by omega) hp w hw hl r hr,
  progL:=fun {m} hm v len acc p hp hl hb hg r hr=>by
   obtain ⟨k,rfl⟩:∃ k,m=k+1:=⟨m-1,by omega⟩;exact Zq2 I X.toT3 X.progL (by omega) hp v len acc hl hb hg r hr,
  program:=fun {m} hm p hp r hr=>by
   obtain ⟨k,rfl⟩:∃ k,m=k+1:=⟨m-1,by omega⟩;exact Zr2 I X.toT3 X.progL (by omega) hp r hr }
theorem t_all {es:List V} {l:List (Int×List UInt8)} (I:Items es l) (HP:JS0) (n:Nat):T4 es l n:=by
 induction n with
 | zero=>exact t_zero es l
 | succ n IH=>exact t_step I HP IH
/-- THE PROGRAM'S ANSWER TO ITEMS. -/
def chg (t:Int×List UInt8):Int :=
 bif decide (t.1=9) then 1 else bif decide (t.1=10) then -1 else bif !decide (t.1=13) then 0
 else bif decide (t.2=[40]) then 1 else bif decide (t.2=[91]) then 1 else bif decide (t.2=[123]) then 1
 else bif decide (t.2=[41]) then -1 else bif decide (t.2=[93]) then -1 else bif decide (t.2=[125]) then -1 else 0
theorem chg_le (t:Int×List UInt8):-1≤chg t∧chg t≤1:=by
 unfold chg
 cases decide (t.1=9) <;> cases decide (t.1=10) <;> cases decide (t.1=13) <;> cases decide (t.2=[40]) <;> cases decide (t.2=[91]) <;> cases decide (t.2=[123]) <;> cases decide (t.2=[41]) <;> cases decide (t.2=[93]) <;> cases decide (t.2=[125]) <;> decide
def yj0:List (Int×List UInt8)→Int→Nat→Option Nat
 | [],_,_=>none
 | t::l,n,i=>bif decide (256<max (n+chg t) 0) then some i else yj0 l (max (n+chg t) 0) (i+1)
section q
variable {es:List V} {l:List (Int×List UInt8)} (I:Items es l)
theorem qK2 {m:Nat} (hm:1≤m) (t:Int×List UInt8):(MF m).change t.1 t.2=.ok (chg t):=by
 obtain ⟨m,rfl⟩:∃ k,m=k+1:=⟨m-1,by omega⟩
 change jK0 PR.no PR.ok PR.er (MF m) t.1 t.2=_
 unfold jK0 chg
 simp only [Gk0]
 include I
theorem qL2:∀ (d m i:Nat) (n:Int),i≤l.length→l.length-i≤d→d+2≤m→0≤n→n≤256→(MF m).deepL es n (i:Nat)=(match yj0 (l.drop i) n i with
 | some k=>.er (k:Int)
 | none=>.ok ()):=by
 have hl:=I.len
 have hs:=I.small
 intro d
 induction d with
 | zero =>
  intro m i n hi hd hm h0 h1
  obtain ⟨m,rfl⟩:∃ k,m=k+1:=⟨m-1,by omega⟩
  change yM0 PR.no PR.ok PR.er (MF m) es n i=_
  unfold yM0
  rw [decide_eq_false (by omega),cond_false,List.drop_eq_nil_of_le (by omega)]
  rfl
 | succ d IH =>
  intro m i n hi hd hm h0 h1
  obtain ⟨m,rfl⟩:∃ k,m=k+1:=⟨m-1,by omega⟩
  change yM0 PR.no PR.ok PR.er (MF m) es n i=_
  unfold yM0
  rcases Nat.lt_or_ge i l.length with h | h
  ·have e1:Int.toNat (i:Int)=i:=Int.toNat_natCast i
   have hk:gI 4 es (i*4) 0=l[i].1:=I.kind i h
   have ht:gS 4 es (i*4) 1=l[i].2:=I.text i h
   have hc:=chg_le l[i]
   rw [decide_eq_true (by omega),cond_true,qO0 ⟨by omega,by omega⟩,e1,qO0 (I.ldd i h),hk,ht,qK2 (by omega),List.drop_eq_getElem_cons h]
   dsimp only [PR.bnd,yj0]
   rw [qO0 ⟨by omega,by omega⟩]
   cases hb:decide (256<max (n+chg l[i]) 0) with
   | true=>rfl
   | false =>
    have hb':=of_decide_eq_false hb
    rw [cond_false,cond_false,qO0 ⟨by omega,by omega⟩]
    have h2:=IH m (i+1) (max (n+chg l[i]) 0) (by omega) (by omega) (by omega) (by omega) (by omega)
    change (MF m).deepL es (max (n+chg l[i]) 0) ((i:Int)+1)=_ at h2
    rw [h2]
    cases yj0 (l.drop (i+1)) (max (n+chg l[i]) 0) (i+1) <;> rfl
  ·rw [decide_eq_false (by omega),cond_false,List.drop_eq_nil_of_le (by omega)]
   rfl
theorem zr1 {m:Nat} (hm:l.length+3≤m):(MF m).deep es=(match yj0 l 0 0 with
 | some k=>.ok ((k:Int),true)
 | none=>.ok (0,false)):=by
 obtain ⟨m,rfl⟩:∃ k,m=k+1:=⟨m-1,by omega⟩
 change jL0 PR.no PR.ok PR.er (MF m) es=_
 unfold jL0
 have h:=qL2 I l.length m 0 0 (by omega) (by omega) (by omega) (by omega) (by omega)
 change (MF m).deepL es 0 0=_ at h
 rw [h,List.drop_zero]
 cases yj0 l 0 0 <;> rfl
end q
def progV (x:Nd×Nat×Nat):V:=.tup [qa0 x.1,.int .u16 (x.2.1:Int),.int .i64 (x.2.2:Int)]
def zM0 (l:List (Int×List UInt8)) (x:Nd×Nat×Nat):Prop:=match yj0 l 0 0 with
 | some i=>x=(⟨0,[],[]⟩,21,i)
 | none=>∃ n,(∃ a q,qb0 l n .program 0=some (.ok (a,q))∧x=(a,0,0))∨(∃ e,qb0 l n .program 0=some (.er e)∧x=(⟨0,[],[]⟩,22,e))
theorem e_prog (X:PsX) (ih:Task→Res) {β:Type} (bot:β) (k:Res→β) (es:List V):evN PP EP CP (tbP X) ih bot (.call 14 [.osl 4 es] Heap.empty) k=PR.bnd bot ((FX X).deep es) (fun a=>bif a.2 then k (.ret (.tup [.agg [.int .i64 0,.str [],.osl 3 []],.int .u16 21,.int .i64 a.1]) Heap.empty) else PR.bnd bot ((FX X).N 26 es 0) (fun b=>k (.ret (.tup [qa0 b.1,.int .u16 0,.int .i64 0]) Heap.empty)) (fun e=>need bot (vEq (.int .i64 e) (.int .i64 e)) (need bot (vEq (.int .i64 e) (.int .i64 e)) (need bot (vEq (.ptr 6 0 0) (.ptr 6 0 0)) (need bot (vEq (.ptr 6 0 0) (.ptr 6 0 0)) (k (.ret (.tup [.agg [.int .i64 0,.str [],.osl 3 []],.int .u16 22,.int .i64 e]) Heap.empty))))))) (fun _=>bot):=by kernel_rfl
theorem Xx0 {α ε:Type} {x y:PR α ε} {a:PR α ε} (h:le1 x y) (hx:x=a) (ha:a≠.no):y=a:=by
 rcases h with h | h
 ·exact absurd (hx.symm.trans h) ha
 ·rw [← h,hx]
theorem yv2 {es:List V} {l:List (Int×List UInt8)} (I:Items es l) (hT:JT0 l):∃ x,zM0 l x∧∃ N0,∀ N,N0≤N→rn PP EP CP N (.call 14 [.osl 4 es] Heap.empty)=.ret (progV x) Heap.empty:=by
 obtain ⟨n,r,hr⟩:=ends l hT .program 0 (Nat.zero_le _)
 have fin:∀ m v,(PR.bnd none ((FX (XF m)).deep es) (fun a=>bif a.2 then some (.ret (.tup [.agg [.int .i64 0,.str [],.osl 3 []],.int .u16 21,.int .i64 a.1]) Heap.empty) else PR.bnd none ((FX (XF m)).N 26 es 0) (fun b=>some (.ret (.tup [qa0 b.1,.int .u16 0,.int .i64 0]) Heap.empty)) (fun e=>need none (vEq (.int .i64 e) (.int .i64 e)) (need none (vEq (.int .i64 e) (.int .i64 e)) (need none (vEq (.ptr 6 0 0) (.ptr 6 0 0)) (need none (vEq (.ptr 6 0 0) (.ptr 6 0 0)) (some (.ret (.tup [.agg [.int .i64 0,.str [],.osl 3 []],.int .u16 22,.int .i64 e]) Heap.empty))))))) (fun _=>none):Option Res)=some (.ret v Heap.empty)→rn PP EP CP (m+1) (.call 14 [.osl 4 es] Heap.empty)=.ret v Heap.empty:=by
  intro m v hv
  have h2:=KD0 (bot:=(none:Option Res)) (yn1 m) (.call 14 [.osl 4 es] Heap.empty) some
  rw [e_prog,hv] at h2
  rcases h2 with h2 | h2
  ·cases h2
  ·exact (Option.some.inj h2).symm
 unfold zM0
 cases hS:yj0 l 0 0 with
 | some i =>
  refine ⟨_,rfl,12*n+wid l+l.length+13,fun N hN=>?_⟩
  obtain ⟨m,rfl⟩:∃ k,N=k+1:=⟨N-1,by omega⟩
  have hd:=zr1 I (m:=m) (by omega)
  rw [hS] at hd
  refine fin m _ ?_
  rw [Xx0 ((zh1 m).deep es) hd (by intro h;cases h)]
  rfl
 | none =>
  cases r with
  | ok a =>
   refine ⟨(a.1,0,0),⟨n,.inl ⟨a.1,a.2,hr,rfl⟩⟩,12*n+wid l+l.length+13,fun N hN=>?_⟩
   obtain ⟨m,rfl⟩:∃ k,N=k+1:=⟨N-1,by omega⟩
   have hm:=(t_all I ZC1 n).program (m:=m) (by omega) 0 (Nat.zero_le _) _ hr
   have hd:=zr1 I (m:=m) (by omega)
   rw [hS] at hd
   have L:=zh1 m
   have hN:=L.N 26 es 0
   change (MF m).N 26 es 0=qB0 (.ok a) at hm
   refine fin m _ ?_
   rw [Xx0 (L.deep es) hd (by intro h;cases h),Xx0 hN hm (by intro h;cases h)]
   rfl
  | er e =>
   refine ⟨(⟨0,[],[]⟩,22,e),⟨n,.inr ⟨e,hr,rfl⟩⟩,12*n+wid l+l.length+13,fun N hN=>?_⟩
   obtain ⟨m,rfl⟩:∃ k,N=k+1:=⟨N-1,by omega⟩
   have hm:=(t_all I ZC1 n).program (m:=m) (by omega) 0 (Nat.zero_le _) _ hr
   have hd:=zr1 I (m:=m) (by omega)
   rw [hS] at hd
   have L:=zh1 m
   have hN:=L.N 26 es 0
   change (MF m).N 26 es 0=qB0 (.er e) at hm
   refine fin m _ ?_
   rw [Xx0 (L.deep es) hd (by intro h;cases h),Xx0 hN hm (by intro h;cases h)]
   dsimp only [PR.bnd,qB0,cond_false]
   have E:∀ v:V,vEq v v:=fun v=>rfl
   rw [qO0 (E _),qO0 (E _),qO0 (E _),qO0 (E _)]
   rfl
  | no=>exact (qd0 l n .program 0 .no hr (Nat.zero_le _)).elim
/-- THE PLAIN LAW OF ParseFirst: what stands behind an error's place changes nothing; ahead of it a program begins. -/
theorem zW1 {l:List (Int×List UInt8)} {n m:Nat} {x:NT} {p:Nat} {a b:PR (Nd×Nat) Nat} (ha:qb0 l n x p=some a) (hb:qb0 l m x p=some b):a=b:=by
 have h1:=GA0 (Nat.le_max_left n m) ha
 have h2:=GA0 (Nat.le_max_right n m) hb
 rw [h1] at h2
 exact Option.some.inj h2
theorem jh1:∀ (l x:List (Int×List UInt8)) (n:Int) (i:Nat),yj0 (l++x) n i=none→yj0 l n i=none
 | [],_,_,_,_=>rfl
 | t::l,x,n,i,h=>by
  rw [List.cons_append] at h
  unfold yj0 at h ⊢
  cases hb:decide (256<max (n+chg t) 0) with
  | true=>rw [hb] at h;cases h
  | false=>rw [hb] at h;exact jh1 l x _ _ h
theorem yu2 {l:List (Int×List UInt8)} {x:Nd×Nat×Nat} (h:zM0 l x) (he:x.2.1=22):yj0 l 0 0=none∧∃ n e,qb0 l n .program 0=some (.er e)∧x=(⟨0,[],[]⟩,22,e):=by
 unfold zM0 at h
 split at h
 ·subst h;cases he
 ·rename_i hd
  obtain ⟨n,h | h⟩:=h
  ·obtain ⟨a,q,_,rfl⟩:=h;cases he
  ·obtain ⟨e,h1,h2⟩:=h;exact ⟨hd,n,e,h1,h2⟩
theorem Gs1 {l x:List (Int×List UInt8)} {r r2 r3:Nd×Nat×Nat} (hr:zM0 l r) (he:r.2.1=22) (hat:r.2.2<l.length) (h2:zM0 (l.take (r.2.2+1)++x) r2) (h3:zM0 (l.take r.2.2) r3) :
 (r2.2.1=22∧r2.2.2=r.2.2∨r2.2.1=21)∧(r3.2.1=0∨r3.2.1=22∧r3.2.2=r.2.2):=by
 obtain ⟨hd,n,e,hrun,rfl⟩:=yu2 hr he
 change e<l.length at hat
 change zM0 (l.take (e+1)++x) r2 at h2
 change zM0 (l.take e) r3 at h3
 have hpos:=qd0 l n .program 0 _ hrun (Nat.zero_le _)
 constructor
 ·have hag:∀ i,i≤plc (.er e)→l[i]?=(l.take (e+1)++x)[i]?:=by
   intro i hi
   change i≤e at hi
   have hlt:i<(l.take (e+1)).length:=by rw [List.length_take];omega
   rw [List.getElem?_append_left hlt,List.getElem?_take,if_pos (by omega)]
  have hm:=ZS1 n .program 0 _ hrun (Nat.zero_le _) hag
  unfold zM0 at h2
  split at h2
  ·subst h2;exact .inr rfl
  ·obtain ⟨n2,h2 | h2⟩:=h2
   ·obtain ⟨a,q,h4,_⟩:=h2
    cases zW1 hm h4
   ·obtain ⟨e2,h4,rfl⟩:=h2
    cases zW1 hm h4
    exact .inl ⟨rfl,rfl⟩
 ·have hd3:yj0 (l.take e) 0 0=none:=jh1 (l.take e) (l.drop e) 0 0 (by rw [List.take_append_drop];exact hd)
  unfold zM0 at h3
  rw [hd3] at h3
  obtain ⟨n3,h3 | h3⟩:=h3
  ·obtain ⟨a,q,_,rfl⟩:=h3;exact .inl rfl
  ·obtain ⟨e3,h4,rfl⟩:=h3
   right
   refine ⟨rfl,?_⟩
   have hp3:=qd0 (l.take e) n3 .program 0 _ h4 (Nat.zero_le _)
   have hle:e3≤e:=by
    have:=hp3.2
    rw [List.length_take] at this
    omega
   rcases Nat.lt_or_eq_of_le hle with h5 | h5
   ·have hag:∀ i,i≤plc (.er e3)→(l.take e)[i]?=l[i]?:=by
     intro i hi
     change i≤e3 at hi
     rw [List.getElem?_take,if_pos (by omega)]
    have hm:=ZS1 n3 .program 0 _ h4 (Nat.zero_le _) hag
    cases zW1 hm hrun
    exact absurd h5 (Nat.lt_irrefl _)
   ·exact h5
/-- THE MAKER OF CHOICES, THE REFERENCE's LEXER AND ITEMS: what calls come to. -/
noncomputable def hpG (es:List V) (k:Int):Heap:=hp [.row 0 53 2 0 (some 1) [.agg [.osl 1 es,.int .i64 k]]]
noncomputable def dG (h:Heap):Option (List V×Int) :=
 match h.get 0 with
 | .row _ _ _ _ _ es=>(match es with
  | e::_=>(match e with
   | .agg cs=>(match cs with
    | l::p::_=>(match l with
     | .osl _ es=>(match p with
      | .int _ a=>some (es,a)
      | _=>none)
     | _=>none)
    | _=>none)
   | _=>none)
  | _=>none)
 | _=>none
noncomputable def hpL (ver:Nat) (l:List V):Heap:=hp [.row ver 49 2 0 none l]
noncomputable def dL (h:Heap):Option (Nat×List V) :=
 match h.get 0 with
 | .row ver _ _ _ _ es=>some (ver,es)
 | _=>none
structure Lx where
 s:List UInt8
 at1:Int
 ver:Nat
 n:Nat
 l:List V
 o:List V
 i:Bool
 e:Int
 z:Bool
noncomputable def rL (b:Bool) (a:Lx):Res:=Bool.rec (.ret (.agg [.str a.s,.int .i64 a.at1,.nils,.osl 1 a.o,.bool a.i,.int .i64 11]) Heap.empty) (.ret (.agg [.str a.s,.int .i64 a.at1,.sl 0 a.ver 0 a.n none,.osl 1 a.o,.bool a.i,.int .i64 a.e]) (hpL a.ver a.l)) b
noncomputable def rLx (a:Lx):Res:=rL a.z a
noncomputable def rE (a:List V):Res:=.ret (.osl 1 a) Heap.empty
noncomputable def rE4 (a:List V):Res:=.ret (.osl 4 a) Heap.empty
noncomputable def rTk (a:Int×List UInt8):Res:=.ret (.agg [.int .i64 a.1,.str a.2]) Heap.empty
noncomputable def rGS (a:List V×Int×List UInt8):Res:=.ret (.str a.2.2) (hpG a.1 a.2.1)
noncomputable def rGI (a:List V×Int×Int):Res:=.ret (.int .i64 a.2.2) (hpG a.1 a.2.1)
noncomputable def rTT (a:List V×Int×Int):Res:=.ret (.tup [.osl 2 a.1,.int .i64 a.2.1,.int .i64 a.2.2]) Heap.empty
noncomputable def rIT (a:List V×List V):Res:=.ret (.tup [.osl 1 a.1,.osl 4 a.2]) Heap.empty
noncomputable def rPG (a:Nd×Int×Int):Res:=.ret (.tup [qa0 a.1,.int .u16 a.2.1,.int .i64 a.2.2]) Heap.empty
noncomputable def rJ (fr:Fr) (a:List UInt8×Int):Res:=.code (.exit 0) ((base fr.fn fr.n).on [(0,.str a.1),(3,.int .i64 a.2)]) Heap.empty
noncomputable def rJ2 (fr:Fr) (b:Bool) (a:Bool×List UInt8×Int×Int):Res:=Bool.rec (.code .ret ((base fr.fn fr.n).on [(0,.str a.2.1),(2,.int .i64 a.2.2.2),(3,.int .i64 a.2.2.1)]) Heap.empty) (.code (.exit 0) ((base fr.fn fr.n).on [(0,.str a.2.1),(3,.int .i64 a.2.2.1)]) Heap.empty) b
noncomputable def rJ3 (fr:Fr) (b:Bool) (a:Bool×List UInt8×Int):Res:=Bool.rec (.code .ret ((base fr.fn fr.n).on [(0,.str a.2.1),(2,.int .i64 a.2.2)]) Heap.empty) (.code (.exit 0) ((base fr.fn fr.n).on [(0,.str a.2.1)]) Heap.empty) b
noncomputable def rJ4 (fr:Fr) (b:Bool) (a:Bool×List UInt8×Int×Int×Int):Res:=Bool.rec (.code .ret ((base fr.fn fr.n).on [(0,.str a.2.1),(2,.int .i64 a.2.2.2.2),(3,.int .i64 a.2.2.1),(4,.int .i64 a.2.2.2.1)]) Heap.empty) (.code (.exit 0) ((base fr.fn fr.n).on [(0,.str a.2.1),(3,.int .i64 a.2.2.1),(4,.int .i64 a.2.2.2.1)]) Heap.empty) b
noncomputable abbrev nI {β:Type} (bot:β) (a:Int) (x:β):β:=need bot ((-9223372036854775808≤a)∧(a≤9223372036854775807)) x
noncomputable abbrev nX {β:Type} (bot:β) (i:Int) (n:Nat) (x:β):β:=need bot (((0:Int)≤i)∧(i<(n:Int))) x
noncomputable abbrev nG {β:Type} (bot:β) (v n:Nat) (l:List V) (x:β):β:=need bot ((v=v)∧((0=0)∧((n=List.length l)∧(GndR l)))) x
def jn {β:Type} (s:β) (F:β→β):β:=F s
def ent2 {α ε:Type} (x:PR α ε) (s:α→Bool) (R:Bool→α→Res) (Q:ε→Res):Ent:=⟨α,ε,x,s,fun _=>true,fun b _=>R b,Q⟩
noncomputable def rS4 (fr:Fr) (a:List V×List UInt8):Res:=.code (.exit 0) ((base fr.fn fr.n).on [(0,.osl 1 a.1),(4,.str a.2)]) Heap.empty
noncomputable def rJL (fr:Fr) (a:Lx):Res:=.code (.exit 0) ((base fr.fn fr.n).on [(0,.str a.s),(6,.ptr 0 0 0)]) (hp [.row 0 81 6 0 (some 1) [.agg [.str a.s,.int .i64 a.at1,.sl 1 a.ver 0 a.n none,.osl 1 a.o,.bool a.i,.int .i64 a.e]],.row a.ver 49 2 0 none a.l])
structure Ix where
 es:List V
 b1:Bool
 v1:Nat
 n1:Nat
 l1:List V
 b2:Bool
 v2:Nat
 n2:Nat
 l2:List V
abbrev strR (ver:Nat) (l:List V):Obj:=.row ver 9 1 0 none l
abbrev QO0 (ver:Nat) (l:List V):Obj:=.row ver 59 4 0 none l
noncomputable def rIx (fr:Fr) (b1 b2:Bool) (a:Ix):Res:=Bool.rec
 (Bool.rec (.code (.exit 0) ((base fr.fn fr.n).on [(0,.osl 2 a.es),(4,.nils),(5,.nils)]) Heap.empty) (.code (.exit 0) ((base fr.fn fr.n).on [(0,.osl 2 a.es),(4,.nils),(5,.sl 0 a.v2 0 a.n2 none)]) (hp [QO0 a.v2 a.l2])) b2)
 (Bool.rec (.code (.exit 0) ((base fr.fn fr.n).on [(0,.osl 2 a.es),(4,.sl 0 a.v1 0 a.n1 none),(5,.nils)]) (hp [strR a.v1 a.l1])) (.code (.exit 0) ((base fr.fn fr.n).on [(0,.osl 2 a.es),(4,.sl 0 a.v1 0 a.n1 none),(5,.sl 1 a.v2 0 a.n2 none)]) (hp [strR a.v1 a.l1,QO0 a.v2 a.l2])) b2) b1
noncomputable def rMx (fr:Fr) (b:Bool) (a:Bool×Nat×Nat×List V×List V):Res:=Bool.rec (.code (.exit 0) ((base fr.fn fr.n).on [(1,.osl 1 a.2.2.2.2),(15,.nils)]) Heap.empty) (.code (.exit 0) ((base fr.fn fr.n).on [(1,.osl 1 a.2.2.2.2),(15,.sl 0 a.2.1 0 a.2.2.1 none)]) (hp [QO0 a.2.1 a.2.2.2.1])) b
noncomputable def rOb (fr:Fr) (a:List V×Int×Int×List UInt8):Res:=.code (.exit 0) ((base fr.fn fr.n).on [(0,.ptr 0 0 0),(1,.int .i64 a.2.2.1),(5,.str a.2.2.2)]) (hpG a.1 a.2.1)
structure PmX where
 I:Task→PR Int Int
 O:Task→PR Bool Int
 W:Task→PR (List UInt8) Int
 E:Task→PR (List V) Int
 K:Task→PR (Int×List UInt8) Int
 GS:Task→PR (List V×Int×List UInt8) Int
 GI:Task→PR (List V×Int×Int) Int
 TT:Task→PR (List V×Int×Int) Int
 IT:Task→PR (List V×List V) Int
 PG:Task→PR (Nd×Int×Int) Int
 L:Task→PR Lx Int
 J:Task→PR (List UInt8×Int) Int
 J2:Task→PR (Bool×List UInt8×Int×Int) Int
 J3:Task→PR (Bool×List UInt8×Int) Int
 J4:Task→PR (Bool×List UInt8×Int×Int×Int) Int
 S4:Task→PR (List V×List UInt8) Int
 JL:Task→PR Lx Int
 Ix:Task→PR Ix Int
 Mx:Task→PR (Bool×Nat×Nat×List V×List V) Int
 Ob:Task→PR (List V×Int×Int×List UInt8) Int
 E4:Task→PR (List V) Int
noncomputable def tbMK (X:PmX) (t:Task) (k:Nat):Option Ent :=
 match k with
 | 1=>some (ent (X.I t) rI qN)
 | 2=>some (ent (X.O t) rO qN)
 | 3=>some (ent (X.W t) rW qN)
 | 4=>some (ent (X.E t) rE qN)
 | 5=>some (ent (X.K t) rTk qN)
 | 6=>some (ent (X.GS t) rGS qN)
 | 7=>some (ent (X.GI t) rGI qN)
 | 8=>some (ent (X.TT t) rTT qN)
 | 9=>some (ent (X.IT t) rIT qN)
 | 10=>some (ent (X.PG t) rPG qN)
 | 12=>some (ent (X.E4 t) rE4 qN)
 | 11=>some (ent2 (X.L t) (fun a=>a.z) (rL) qN)
 | _=>none
def kindM:T Nat:=(.n (.n (.n (.n (.n (.n .e 1 .e) 0 .e) 0 (.n (.n (.n .e 6 .e) 2 (.n .e 2 .e)) 0 (.n (.n (.n .e 1 .e) 0 .e) 0 .e))) 0 (.n (.n (.n (.n .e 1 .e) 6 .e) 0 .e) 4 (.n (.n .e 0 (.n .e 2 .e)) 0 .e))) 0 (.n (.n (.n (.n .e 11 .e) 0 .e) 0 (.n (.n .e 0 (.n .e 1 .e)) 0 .e)) 0 (.n (.n (.n (.n .e 11 .e) 6 (.n .e 1 .e)) 6 (.n (.n (.n .e 1 .e) 0 .e) 0 .e)) 12 (.n (.n .e 0 (.n .e 1 .e)) 0 .e)))) 0 (.n (.n (.n (.n (.n .e 11 .e) 0 .e) 0 (.n (.n (.n .e 6 .e) 0 (.n .e 1 .e)) 0 (.n (.n (.n .e 4 .e) 0 .e) 0 .e))) 0 (.n (.n (.n (.n .e 1 .e) 6 .e) 7 (.n (.n (.n .e 2 .e) 0 .e) 0 .e)) 3 (.n (.n .e 0 (.n .e 1 .e)) 0 .e))) 0 (.n (.n (.n (.n .e 6 .e) 8 .e) 3 (.n (.n .e 0 (.n .e 1 .e)) 0 .e)) 0 (.n (.n (.n (.n .e 5 .e) 6 (.n .e 1 .e)) 9 (.n (.n (.n .e 2 .e) 0 .e) 0 .e)) 10 (.n (.n .e 0 (.n .e 1 .e)) 0 .e)))))
def kindML:T Nat:=(.n (.n (.n (.n (.n (.n .e 3 .e) 0 .e) 0 (.n (.n (.n .e 9 .e) 0 .e) 0 (.n (.n (.n .e 1 .e) 0 .e) 0 .e))) 0 (.n (.n (.n (.n .e 4 .e) 0 .e) 0 .e) 0 .e)) 0 (.n (.n .e 0 (.n (.n .e 0 (.n .e 2 .e)) 0 .e)) 0 (.n (.n .e 0 (.n (.n (.n .e 1 .e) 0 .e) 0 .e)) 8 .e))) 0 (.n (.n (.n .e 0 (.n (.n .e 0 (.n .e 1 .e)) 0 .e)) 0 (.n (.n (.n (.n .e 2 .e) 0 .e) 0 .e) 5 (.n (.n .e 0 (.n .e 1 .e)) 0 .e))) 0 (.n (.n (.n .e 6 .e) 0 (.n (.n .e 0 (.n .e 1 .e)) 0 .e)) 0 (.n (.n (.n .e 0 (.n .e 3 .e)) 7 .e) 0 (.n (.n .e 0 (.n .e 3 .e)) 0 .e)))))
noncomputable def tbML (X:PmX) (t:Task) (fr:Fr):Option Ent :=
 match T.get 0 kindML fr.fn with
 | 1=>some (ent (X.J t) (rJ fr) qN)
 | 2=>some (ent2 (X.J2 t) (fun a=>a.1) (rJ2 fr) qN)
 | 3=>some (ent2 (X.J3 t) (fun a=>a.1) (rJ3 fr) qN)
 | 4=>some (ent2 (X.J4 t) (fun a=>a.1) (rJ4 fr) qN)
 | 5=>some (ent (X.S4 t) (rS4 fr) qN)
 | 6=>some (ent (X.JL t) (rJL fr) qN)
 | 7=>some ⟨_,_,X.Ix t,fun a=>a.b1,fun a=>a.b2,rIx fr,qN⟩
 | 8=>some (ent2 (X.Mx t) (fun a=>a.1) (rMx fr) qN)
 | 9=>some (ent (X.Ob t) (rOb fr) qN)
 | _=>none
noncomputable def qg0 (X:PmX) (t:Task):Option Ent :=
 match t with
 | .call f _ _=>tbMK X t (T.get 0 kindM f)
 | .code c fr _=>(match c with
  | .loop _=>tbML X t fr
  | _=>none)
 | _=>none
/-- FROM SOME NUMBER ON. -/
def Evt (p:Nat→Prop):Prop:=∃ n0,∀ n,n0≤n→p n
theorem Evt.and {p q:Nat→Prop} (h1:Evt p) (h2:Evt q):Evt fun n=>p n∧q n:=by
 obtain ⟨a,h1⟩:=h1
 obtain ⟨b,h2⟩:=h2
 exact ⟨max a b,fun n hn=>⟨h1 n (by omega),h2 n (by omega)⟩⟩
theorem Evt.mono {p q:Nat→Prop} (h1:Evt p) (h:∀ n,p n→q n):Evt q:=by
 obtain ⟨a,h1⟩:=h1
 exact ⟨a,fun n hn=>h n (h1 n hn)⟩
theorem Evt.of {p:Nat→Prop} (h:∀ n,p n):Evt p:=⟨0,fun n _=>h n⟩
def Rn (e:Nat→Option Res) (Q:Res→Prop):Prop:=∃ r,Q r∧Evt fun n=>e n=some r
theorem Rn.ret {Q:Res→Prop} {r:Res} (h:Q r):Rn (fun _=>some r) Q:=⟨r,h,.of fun _=>rfl⟩
theorem Rn.need {φ:Prop} {e:Nat→Option Res} {Q:Res→Prop} (hφ:φ) (h:Rn e Q):Rn (fun n=>need none φ (e n)) Q:=by
 obtain ⟨r,hr,hE⟩:=h
 exact ⟨r,hr,hE.mono fun n h=>by show AM.need none φ (e n)=some r;unfold AM.need;rw [if_pos hφ];exact h⟩
theorem Rn.cond {c:Bool} {a b:Nat→Option Res} {Q:Res→Prop} (h1:c=true→Rn a Q) (h2:c=false→Rn b Q):Rn (fun n=>bif c then a n else b n) Q:=by
 cases c with
 | true=>exact h1 rfl
 | false=>exact h2 rfl
theorem Rn.dec {p:Prop} [Decidable p] {a b:Nat→Option Res} {Q:Res→Prop} (h1:p→Rn a Q) (h2:¬ p→Rn b Q):Rn (fun n=>bif decide p then a n else b n) Q :=
 .cond (fun h=>h1 (of_decide_eq_true h)) (fun h=>h2 (of_decide_eq_false h))
theorem Rn.ndec {p:Prop} [Decidable p] {a b:Nat→Option Res} {Q:Res→Prop} (h1:¬ p→Rn a Q) (h2:p→Rn b Q):Rn (fun n=>bif !decide p then a n else b n) Q :=
 .cond (fun h=>h1 (by simpa using h)) (fun h=>h2 (by simpa using h))
theorem Rn.bnd {α ε:Type} {x:Nat→PR α ε} {v:α} {f:α→Nat→Option Res} {g:ε→Nat→Option Res} {Q:Res→Prop} (hx:Evt fun n=>x n=.ok v) (hf:Rn (f v) Q):Rn (fun n=>PR.bnd none (x n) (fun a=>f a n) (fun e=>g e n)) Q:=by
 obtain ⟨r,hr,hE⟩:=hf
 exact ⟨r,hr,(hx.and hE).mono fun n ⟨h1,h2⟩=>by show PR.bnd none (x n) _ _=_;rw [show x n=_ from h1];exact h2⟩
theorem Rn.join {s:Nat→Option Res} {F:Option Res→Nat→Option Res} {Q:Res→Prop} (hs:Rn s Q) (hF:∀ (j:Nat→Option Res),Rn j Q→Rn (fun n=>F (j n) n) Q):Rn (fun n=>jn (s n) (fun j=>F j n)) Q:=hF s hs
theorem Rn.nI {a:Int} {e:Nat→Option Res} {Q:Res→Prop} (h:-9223372036854775808≤a∧a≤9223372036854775807) (h2:Rn e Q):Rn (fun n=>AM.nI none a (e n)) Q:=.need h h2
theorem Rn.nX {i:Int} {m:Nat} {e:Nat→Option Res} {Q:Res→Prop} (h:0≤i∧i<(m:Int)) (h2:Rn e Q):Rn (fun n=>AM.nX none i m (e n)) Q:=.need h h2
theorem Rn.nG {v m:Nat} {l:List V} {e:Nat→Option Res} {Q:Res→Prop} (h:m=l.length) (h1:GndR l) (h2:Rn e Q):Rn (fun n=>AM.nG none v m l (e n)) Q:=.need ⟨rfl,rfl,h,h1⟩ h2
noncomputable def frO:Task→Fr
 | .code _ fr _=>fr
 | _=>base 0 0
noncomputable def XM (n:Nat):PmX where
 I:=fun t=>exR rI qN (rn PP EP CP n t)
 O:=fun t=>exR rO qN (rn PP EP CP n t)
 W:=fun t=>exR rW qN (rn PP EP CP n t)
 E:=fun t=>exR rE qN (rn PP EP CP n t)
 K:=fun t=>exR rTk qN (rn PP EP CP n t)
 GS:=fun t=>exR rGS qN (rn PP EP CP n t)
 GI:=fun t=>exR rGI qN (rn PP EP CP n t)
 TT:=fun t=>exR rTT qN (rn PP EP CP n t)
 IT:=fun t=>exR rIT qN (rn PP EP CP n t)
 PG:=fun t=>exR rPG qN (rn PP EP CP n t)
 L:=fun t=>exR rLx qN (rn PP EP CP n t)
 J:=fun t=>exR (rJ (frO t)) qN (rn PP EP CP n t)
 J2:=fun t=>exR (fun a=>rJ2 (frO t) a.1 a) qN (rn PP EP CP n t)
 J3:=fun t=>exR (fun a=>rJ3 (frO t) a.1 a) qN (rn PP EP CP n t)
 J4:=fun t=>exR (fun a=>rJ4 (frO t) a.1 a) qN (rn PP EP CP n t)
 S4:=fun t=>exR (rS4 (frO t)) qN (rn PP EP CP n t)
 JL:=fun t=>exR (rJL (frO t)) qN (rn PP EP CP n t)
 Ix:=fun t=>exR (fun a=>rIx (frO t) a.b1 a.b2 a) qN (rn PP EP CP n t)
 Mx:=fun t=>exR (fun a=>rMx (frO t) a.1 a) qN (rn PP EP CP n t)
 Ob:=fun t=>exR (rOb (frO t)) qN (rn PP EP CP n t)
 E4:=fun t=>exR rE4 qN (rn PP EP CP n t)
def Ok1 {α ε:Type} (K:PmX→PR α ε) (P:α→Prop):Prop:=∃ a,P a∧Evt fun n=>K (XM n)=.ok a
theorem Rn.bndO {α ε:Type} {K:PmX→PR α ε} {P:α→Prop} {f:α→Nat→Option Res} {g:ε→Nat→Option Res} {Q:Res→Prop} (h:Ok1 K P) (hf:∀ a,P a→Rn (f a) Q):Rn (fun n=>PR.bnd none (K (XM n)) (fun a=>f a n) (fun e=>g e n)) Q:=by
 obtain ⟨a,hP,hE⟩:=h
 exact .bnd hE (hf a hP)
theorem Rn.of {e e':Nat→Option Res} {Q:Res→Prop} (h:∀ n,e n=e' n) (h2:Rn e' Q):Rn e Q:=by
 rw [show e=e' from funext h];exact h2
def Tk (t:Task) (r:Res):Prop:=Evt fun n=>rn PP EP CP n t=r
theorem Tk.of {X:Nat→PmX} (hX:∀ n,ZU0 (rn PP EP CP n) (qg0 (X n))) {t:Task} {Q:Res→Prop} (h:Rn (fun n=>evN PP EP CP (qg0 (X n)) (rn PP EP CP n) none t some) Q):∃ r,Q r∧Tk t r:=by
 obtain ⟨r,hr,a,hE⟩:=h
 refine ⟨r,hr,a+1,fun n hn=>?_⟩
 obtain ⟨n,rfl⟩:∃ m,n=m+1:=⟨n-1,by omega⟩
 have h1:=KD0 (bot:=(none:Option Res)) (hX n) t some
 have h2:evN PP EP CP (qg0 (X n)) (rn PP EP CP n) none t some=some r:=hE n (by omega)
 rw [h2] at h1
 rcases h1 with h1 | h1
 ·cases h1
 ·exact (Option.some.inj h1).symm
theorem Xm0 {α ε:Type} {R:α→Res} {Q:ε→Res} {r:Res} {e:Ent} (he:ent (exR R Q r) R Q=e):e.x=.no∨e.res=r:=by
 subst he
 exact Xn0 (fun _=>true) (fun _=>true) (fun _ _=>R) Q r
theorem Xl0 {α ε:Type} {s:α→Bool} {R:Bool→α→Res} {Q:ε→Res} {r:Res} {e:Ent} (he:ent2 (exR (fun a=>R (s a) a) Q r) s R Q=e):e.x=.no∨e.res=r:=by
 subst he
 exact Xn0 s (fun _=>true) (fun b _=>R b) Q r
theorem tblXM (n:Nat):ZU0 (rn PP EP CP n) (qg0 (XM n)):=by
 intro t e he
 unfold qg0 at he
 split at he
 ·unfold tbMK at he
  split at he <;> first | (cases he;done) | exact Xm0 (Option.some.inj he) | exact Xl0 (Option.some.inj he)
 ·rename_i c fr h
  split at he
  ·unfold tbML at he
   split at he <;> first | (cases he;done) | exact Xm0 (R:=rJ fr) (Option.some.inj he) | exact Xl0 (R:=rJ2 fr) (Option.some.inj he) | exact Xl0 (R:=rJ3 fr) (Option.some.inj he) | exact Xl0 (R:=rJ4 fr) (Option.some.inj he) | exact Xm0 (R:=rS4 fr) (Option.some.inj he) | exact Xm0 (R:=rJL fr) (Option.some.inj he) | exact Xm0 (R:=rOb fr) (Option.some.inj he) | exact Xl0 (R:=rMx fr) (Option.some.inj he) | (cases he;exact Xn0 (fun a=>a.b1) (fun a=>a.b2) (rIx fr) qN _)
  ·cases he
 ·cases he
theorem exR_L {α ε:Type} {R:α→Res} {Q:ε→Res} {L:Res→α} (hL:∀ a,L (R a)=a) (a:α):exR R Q (R a)=.ok a:=qI1 (fun a b e=>by rw [← hL a,e,hL b]) a
theorem Ga1 {α ε:Type} {R:α→Res} {Q:ε→Res} (a:α):∃ a',R a'=R a∧exR R Q (R a)=.ok a':=by
 unfold exR
 have h1:∃ b,R a=R b:=⟨a,rfl⟩
 rw [dif_pos h1]
 exact ⟨_,(Classical.choose_spec h1).symm,rfl⟩
theorem Tk.by {t:Task} {Q:Res→Prop} (h:Rn (fun n=>evN PP EP CP (qg0 (XM n)) (rn PP EP CP n) none t some) Q):∃ r,Q r∧Tk t r:=Tk.of tblXM h
theorem Ok1.tk {α ε:Type} {K:PmX→PR α ε} {R:α→Res} {Q:ε→Res} {L:Res→α} {t:Task} {P:α→Prop} (hK:∀ n,K (XM n)=exR R Q (rn PP EP CP n t)) (hL:∀ a,L (R a)=a) (h:∃ r,(∃ a,r=R a∧P a)∧Tk t r):Ok1 K P:=by
 obtain ⟨r,⟨a,rfl,hP⟩,hT⟩:=h
 exact ⟨a,hP,hT.mono fun n h=>by show K (XM n)=_;rw [hK,show rn PP EP CP n t=R a from h];exact exR_L hL a⟩
theorem Ok1.any {α ε:Type} {K:PmX→PR α ε} {R:α→Res} {Q:ε→Res} {t:Task} {P:α→Prop} (hK:∀ n,K (XM n)=exR R Q (rn PP EP CP n t)) (h:∃ r,(∃ a,r=R a∧∀ a',R a'=R a→P a')∧Tk t r):Ok1 K P:=by
 obtain ⟨r,⟨a,rfl,hP⟩,hT⟩:=h
 obtain ⟨a',h1,h2⟩:=Ga1 (R:=R) (Q:=Q) a
 exact ⟨a',hP a' h1,hT.mono fun n h=>by show K (XM n)=_;rw [hK,show rn PP EP CP n t=R a from h,h2]⟩
theorem Ok1.weak {α ε:Type} {K:PmX→PR α ε} {P P':α→Prop} (h:Ok1 K P) (hp:∀ a,P a→P' a):Ok1 K P':=by
 obtain ⟨a,h1,h2⟩:=h
 exact ⟨a,hp a h1,h2⟩
section
variable (X:PmX) (ih:Task→Res) {β:Type} (bot:β) (k:Res→β)
theorem Kp1 (c:Int):evN PP EP CP (qg0 X) ih bot (.call 103 [.int .u8 c] Heap.empty) k =
 bif decide (c=32) then (k (.ret (.bool true) Heap.empty))
 else (bif decide (c=9) then (k (.ret (.bool true) Heap.empty))
 else (bif decide (c=10) then (k (.ret (.bool true) Heap.empty))
 else (bif decide (c=13) then (k (.ret (.bool true) Heap.empty))
 else (k (.ret (.bool false) Heap.empty))))):=by kernel_rfl
theorem Kz1 (c:Int):evN PP EP CP (qg0 X) ih bot (.call 107 [.int .u8 c] Heap.empty) k =
 (letI z1:=(k (.ret (.bool true) Heap.empty));letI z2:=(k (.ret (.bool false) Heap.empty));jn (bif decide (65≤c) then (bif decide (c≤90) then z1 else (bif decide (c=95) then z1 else z2)) else (bif decide (c=95) then z1 else z2)) (fun j1:β=>bif decide (97≤c) then (bif decide (c≤122) then z1 else (j1)) else (j1))):=by kernel_rfl
theorem Kt1 (c:Int):evN PP EP CP (qg0 X) ih bot (.call 150 [.int .u8 c] Heap.empty) k =
 bif decide (48≤c) then (bif decide (c≤57) then (k (.ret (.bool true) Heap.empty))
 else (k (.ret (.bool false) Heap.empty)))
 else (k (.ret (.bool false) Heap.empty)):=by kernel_rfl
theorem ev_hex (c:Int):evN PP EP CP (qg0 X) ih bot (.call 148 [.int .u8 c] Heap.empty) k =
 (letI z1:=(k (.ret (.bool false) Heap.empty));letI z2:=(k (.ret (.bool true) Heap.empty));PR.bnd bot (X.2 (.call 150 [(.int .u8 (c))] Heap.empty)) (fun a0=>bif a0 then z2 else (bif decide (97≤c) then (bif decide (c≤102) then z2 else (bif decide (65≤c) then (bif decide (c≤70) then z2 else z1) else z1)) else (bif decide (65≤c) then (bif decide (c≤70) then z2 else z1) else z1))) (fun _=>bot)):=by kernel_rfl
theorem Kq1 (s:List UInt8):evN PP EP CP (qg0 X) ih bot (.call 104 [.str s] Heap.empty) k =
 PR.bnd bot (X.12 (.code (.loop (lpB PP 104 0)) ((base 104 17).on [(0,(.str (s))),(3,(.int .i64 0))]) Heap.empty)) (fun a0 =>
 k (.ret (.int .i64 (a0.2)) Heap.empty))
 (fun e0=>k (qN e0)):=by kernel_rfl
theorem jv1 (s:List UInt8) (n:Int):evN PP EP CP (qg0 X) ih bot (.code (.loop (lpB PP 104 0)) ((base 104 17).on [(0,.str s),(3,.int .i64 n)]) Heap.empty) k =
 (letI z1:=(k (.code (.exit 0) ((base 104 17).on [(0,(.str (s))),(3,(.int .i64 (n)))]) Heap.empty));bif decide (n<(↑(List.length s):Int)) then (nX bot (n) (List.length s) (PR.bnd bot (X.2 (.call 103 [(.int .u8 (qf0 s n))] Heap.empty)) (fun a2=>bif a2 then (nI bot (n+1) (PR.bnd bot (X.12 (.code (.loop (lpB PP 104 0)) ((base 104 17).on [(0,(.str (s))),(3,(.int .i64 (n+1)))]) Heap.empty)) (fun
 a5=>k (.code (.exit 0) ((base 104 17).on [(0,(.str (a5.1))),(3,(.int .i64 (a5.2)))]) Heap.empty)) (fun e5=>k (qN e5)))) else z1) (fun _=>bot))) else z1):=by kernel_rfl
theorem KM1 (s:List UInt8):evN PP EP CP (qg0 X) ih bot (.call 108 [.str s] Heap.empty) k =
 PR.bnd bot (X.12 (.code (.loop (lpB PP 108 0)) ((base 108 23).on [(0,(.str (s))),(3,(.int .i64 0))]) Heap.empty)) (fun a0 =>
 k (.ret (.int .i64 (a0.2)) Heap.empty))
 (fun e0=>k (qN e0)):=by kernel_rfl
theorem jJ1 (s:List UInt8) (n:Int):evN PP EP CP (qg0 X) ih bot (.code (.loop (lpB PP 108 0)) ((base 108 23).on [(0,.str s),(3,.int .i64 n)]) Heap.empty) k =
 (letI z1:=(k (.code (.exit 0) ((base 108 23).on [(0,(.str (s))),(3,(.int .i64 (n)))]) Heap.empty));letI z2:=(List.length s);bif decide (n<(↑z2:Int)) then (nX bot (n) z2 (PR.bnd bot (X.2 (.call 107 [(.int .u8 (qf0 s n))] Heap.empty)) (fun a2=>jn (nI bot (n+1) (PR.bnd bot (X.12 (.code (.loop (lpB PP 108 0)) ((base 108 23).on [(0,(.str (s))),(3,(.int .i64 (n+1)))]) Heap.empty)) (fun a5=>k (.code
 (.exit 0) ((base 108 23).on [(0,(.str (a5.1))),(3,(.int .i64 (a5.2)))]) Heap.empty)) (fun e5=>k (qN e5)))) (fun j1:β=>bif a2 then (j1) else (nX bot (n) z2 (PR.bnd bot (X.2 (.call 150 [(.int .u8 (qf0 s n))] Heap.empty)) (fun a5=>bif a5 then (j1) else z1) (fun _=>bot))))) (fun _=>bot))) else z1):=by kernel_rfl
theorem Ku1 (s:List UInt8):evN PP EP CP (qg0 X) ih bot (.call 151 [.str s] Heap.empty) k =
 PR.bnd bot (X.12 (.code (.loop (lpB PP 151 0)) ((base 151 17).on [(0,(.str (s))),(3,(.int .i64 0))]) Heap.empty)) (fun a0 =>
 k (.ret (.int .i64 (a0.2)) Heap.empty))
 (fun e0=>k (qN e0)):=by kernel_rfl
theorem jx1 (s:List UInt8) (n:Int):evN PP EP CP (qg0 X) ih bot (.code (.loop (lpB PP 151 0)) ((base 151 17).on [(0,.str s),(3,.int .i64 n)]) Heap.empty) k =
 (letI z1:=(k (.code (.exit 0) ((base 151 17).on [(0,(.str (s))),(3,(.int .i64 (n)))]) Heap.empty));bif decide (n<(↑(List.length s):Int)) then (nX bot (n) (List.length s) (PR.bnd bot (X.2 (.call 150 [(.int .u8 (qf0 s n))] Heap.empty)) (fun a2=>bif a2 then (nI bot (n+1) (PR.bnd bot (X.12 (.code (.loop (lpB PP 151 0)) ((base 151 17).on [(0,(.str (s))),(3,(.int .i64 (n+1)))]) Heap.empty)) (fun
 a5=>k (.code (.exit 0) ((base 151 17).on [(0,(.str (a5.1))),(3,(.int .i64 (a5.2)))]) Heap.empty)) (fun e5=>k (qN e5)))) else z1) (fun _=>bot))) else z1):=by kernel_rfl
theorem KU1 (s:List UInt8):evN PP EP CP (qg0 X) ih bot (.call 149 [.str s] Heap.empty) k =
 (letI z1:=(k (.ret (.int .i64 0) Heap.empty));bif decide (s=[]) then z1 else (nX bot 0 (List.length s) (PR.bnd bot (X.2 (.call 107 [(.int .u8 (qf0 s 0))] Heap.empty)) (fun a2=>bif a2 then (PR.bnd bot (X.12 (.code (.loop (lpB PP 149 0)) ((base 149 31).on [(0,(.str (s))),(3,(.int .i64 1))]) Heap.empty)) (fun a4=>k (.ret (.int .i64 (a4.2)) Heap.empty)) (fun e4=>k (qN e4))) else z1) (fun _=>bot)))):=by kernel_rfl
theorem jN1 (s:List UInt8) (n:Int):evN PP EP CP (qg0 X) ih bot (.code (.loop (lpB PP 149 0)) ((base 149 31).on [(0,.str s),(3,.int .i64 n)]) Heap.empty) k =
 (letI z1:=(k (.code (.exit 0) ((base 149 31).on [(0,(.str (s))),(3,(.int .i64 (n)))]) Heap.empty));letI z2:=(List.length s);bif decide (n<(↑z2:Int)) then (nX bot (n) z2 (PR.bnd bot (X.2 (.call 107 [(.int .u8 (qf0 s n))] Heap.empty)) (fun a2=>jn (nI bot (n+1) (PR.bnd bot (X.12 (.code (.loop (lpB PP 149 0)) ((base 149 31).on [(0,(.str (s))),(3,(.int .i64 (n+1)))]) Heap.empty)) (fun a5=>k (.code
 (.exit 0) ((base 149 31).on [(0,(.str (a5.1))),(3,(.int .i64 (a5.2)))]) Heap.empty)) (fun e5=>k (qN e5)))) (fun j1:β=>bif a2 then (j1) else (nX bot (n) z2 (PR.bnd bot (X.2 (.call 150 [(.int .u8 (qf0 s n))] Heap.empty)) (fun a5=>bif a5 then (j1) else z1) (fun _=>bot))))) (fun _=>bot))) else z1):=by kernel_rfl
theorem KY1 (s:List UInt8):evN PP EP CP (qg0 X) ih bot (.call 106 [.str s] Heap.empty) k =
 PR.bnd bot (X.1 (.call 149 [(.str (s))] Heap.empty)) (fun a0 =>
 PR.bnd bot (X.12 (.code (.loop (lpB PP 106 0)) ((base 106 40).on [(0,(.str (s))),(3,(.int .i64 (a0)))]) Heap.empty)) (fun a1 =>
 k (.ret (.int .i64 (a1.2)) Heap.empty))
 (fun e1=>k (qN e1)))
 (fun _=>bot):=by kernel_rfl
theorem jQ1 (s:List UInt8) (n:Int):evN PP EP CP (qg0 X) ih bot (.code (.loop (lpB PP 106 0)) ((base 106 40).on [(0,.str s),(3,.int .i64 n)]) Heap.empty) k =
 (letI z1:=(k (.code (.exit 0) ((base 106 40).on [(0,(.str (s))),(3,(.int .i64 (n)))]) Heap.empty));letI z2:=((n+2)≤((↑(List.length s):Int)));letI z3:=(X.1 (.call 149 [(.str (List.drop (Int.toNat (n+2)) s))] Heap.empty));letI z4:=(((0:Int)≤(n+2))∧z2);bif decide (0<n) then (nI bot (n+2) (bif decide (n+2<(↑(List.length s):Int)) then (nI bot (n+2) (need bot (((0:Int)≤(n))∧(((n)≤(n+2))∧z2)) (bif decide
 (List.drop (Int.toNat n) (List.take (Int.toNat (n+2)) s)=[58,58]) then (nI bot (n+2) (need bot z4 (PR.bnd bot z3 (fun a8=>bif decide (0<a8) then (nI bot (n+2) (need bot z4 (PR.bnd bot z3 (fun a12=>nI bot (2+a12) (nI bot (n+(2+a12)) (PR.bnd bot (X.12 (.code (.loop (lpB PP 106 0)) ((base 106 40).on [(0,(.str (s))),(3,(.int .i64 (n+(2+a12))))]) Heap.empty)) (fun a15=>k (.code (.exit 0) ((base 106
 40).on [(0,(.str (a15.1))),(3,(.int .i64 (a15.2)))]) Heap.empty)) (fun e15=>k (qN e15))))) (fun _=>bot)))) else z1) (fun _=>bot)))) else z1))) else z1)) else z1):=by kernel_rfl
theorem KE1 (s:List UInt8):evN PP EP CP (qg0 X) ih bot (.call 105 [.str s] Heap.empty) k =
 PR.bnd bot (X.13 (.code (.loop (lpB PP 105 0)) ((base 105 53).on [(0,(.str (s))),(3,(.int .i64 0)),(4,(.int .i64 0))]) Heap.empty)) (fun a0 =>
 bif a0.1 then (k (.ret (.int .i64 (a0.2.2.1)) Heap.empty))
 else (k (.ret (.int .i64 (a0.2.2.2)) Heap.empty)))
 (fun e0=>k (qN e0)):=by kernel_rfl
theorem jF1 (s:List UInt8) (n q:Int):evN PP EP CP (qg0 X) ih bot (.code (.loop (lpB PP 105 0)) ((base 105 53).on [(0,.str s),(3,.int .i64 n),(4,.int .i64 q)]) Heap.empty) k =
 (letI z1:=(List.length s);letI z2:=(0,(.str (s)));letI z3:=(((0:Int)≤(q))∧((0:Int)<2));letI z4:=(lpB PP 105 0);letI z5:=(3,(.int .i64 (n+1)));bif decide (n<(↑z1:Int)) then (nX bot (n) z1 (jn (nX bot (n) z1 (jn (nX bot (n) z1 (bif decide (qf0 s n=92) then (nI bot (q+1) (nI bot (n+1) (PR.bnd bot (X.13 (.code (.loop z4) ((base 105 53).on [z2,z5,(4,(.int .i64 (q+1)))]) Heap.empty)) (fun a18=>letI
 z6:=(3,(.int .i64 (a18.2.2.1)));letI z7:=(0,(.str (a18.2.1)));bif a18.1 then (k (.code (.exit 0) ((base 105 53).on [z7,z6]) Heap.empty)) else (k (.code .ret ((base 105 53).on [z7,(2,(.int .i64 (a18.2.2.2))),z6]) Heap.empty))) (fun e18=>k (qN e18))))) else (nI bot (n+1) (PR.bnd bot (X.13 (.code (.loop z4) ((base 105 53).on [z2,z5,(4,(.int .i64 0))]) Heap.empty)) (fun a17=>letI z8:=(3,(.int .i64
 (a17.2.2.1)));letI z9:=(0,(.str (a17.2.1)));bif a17.1 then (k (.code (.exit 0) ((base 105 53).on [z9,z8]) Heap.empty)) else (k (.code .ret ((base 105 53).on [z9,(2,(.int .i64 (a17.2.2.2))),z8]) Heap.empty))) (fun e17=>k (qN e17)))))) (fun j2:β=>bif decide (qf0 s n=13) then (nI bot (n+1) (bif decide (n+1<(↑z1:Int)) then (nI bot (n+1) (nX bot (n+1) z1 (bif decide (qf0 s (n+1)=10) then (need
 bot z3 (bif decide (q%2=1) then (nI bot (n+2) (PR.bnd bot (X.13 (.code (.loop z4) ((base 105 53).on [z2,(3,(.int .i64 (n+2))),(4,(.int .i64 0))]) Heap.empty)) (fun a15=>letI z10:=(3,(.int .i64 (a15.2.2.1)));letI z11:=(0,(.str (a15.2.1)));bif a15.1 then (k (.code (.exit 0) ((base 105 53).on [z11,z10]) Heap.empty)) else (k (.code .ret ((base 105 53).on [z11,(2,(.int .i64 (a15.2.2.2))),z10])
 Heap.empty))) (fun e15=>k (qN e15)))) else (j2))) else (j2)))) else (j2))) else (j2)))) (fun j1:β=>bif decide (qf0 s n=10) then (need bot z3 (bif decide (q%2=0) then (k (.code .ret ((base 105 53).on [z2,(2,(.int .i64 (n))),(3,(.int .i64 (n)))]) Heap.empty)) else (j1))) else (j1)))) else (k (.code (.exit 0) ((base 105 53).on [z2,(3,(.int .i64 (n)))]) Heap.empty))):=by kernel_rfl
theorem KF1 (s:List UInt8):evN PP EP CP (qg0 X) ih bot (.call 109 [.str s] Heap.empty) k =
 (letI z2:=(List.length s);letI z1:=(↑z2:Int);letI z3:=(k (.ret (.int .i64 0) Heap.empty));letI z4:=(X.1 (.call 151 [(.str (List.drop 1 s))] Heap.empty));letI z5:=(((0:Int)≤1)∧((1:Int)≤(z1)));PR.bnd bot (X.1 (.call 151 [(.str (s))] Heap.empty)) (fun a0=>letI z6:=(X.1 (.call 151 [(.str (List.drop (Int.toNat (a0+1)) s))] Heap.empty));letI z7:=(k (.ret (.int .i64 (a0)) Heap.empty));letI
 z8:=(((0:Int)≤(a0+1))∧((a0+1)≤(z1)));letI z9:=(X.1 (.call 151 [(.str (List.drop (Int.toNat (a0+1+1)) s))] Heap.empty));letI z10:=(((0:Int)≤(a0+1+1))∧((a0+1+1)≤(z1)));jn (bif decide (a0=0) then (bif decide (s=[]) then z3 else (nX bot 0 z2 (bif !decide (qf0 s 0=46) then z3 else (need bot z5 (PR.bnd bot z4 (fun a10=>bif decide (a10=0) then z3 else (need bot z5 (PR.bnd bot z4 (fun a13=>letI z11:=(k
 (.ret (.int .i64 (1+a13)) Heap.empty));letI z12:=(X.1 (.call 151 [(.str (List.drop (Int.toNat (1+a13+1+1)) s))] Heap.empty));letI z13:=(X.1 (.call 151 [(.str (List.drop (Int.toNat (1+a13+1)) s))] Heap.empty));letI z14:=(((0:Int)≤(1+a13+1+1))∧((1+a13+1+1)≤(z1)));letI z15:=(((0:Int)≤(1+a13+1))∧((1+a13+1)≤(z1)));nI bot (1+a13) (bif decide (1+a13<z1) then (nX bot (1+a13) z2 (jn (nI bot (1+a13+1) (jn
 (need bot z15 (PR.bnd bot z13 (fun a25=>bif decide (0<a25) then (need bot z15 (PR.bnd bot z13 (fun a28=>nI bot (1+a13+1+a28) (k (.ret (.int .i64 (1+a13+1+a28)) Heap.empty))) (fun _=>bot))) else z11) (fun _=>bot))) (fun j6:β=>bif decide (1+a13+1<z1) then (nX bot (1+a13+1) z2 (jn (nI bot (1+a13+1+1) (need bot z14 (PR.bnd bot z12 (fun a24=>bif decide (0<a24) then (need bot z14 (PR.bnd bot z12
 (fun a27=>nI bot (1+a13+1+1+a27) (k (.ret (.int .i64 (1+a13+1+1+a27)) Heap.empty))) (fun _=>bot))) else z11) (fun _=>bot)))) (fun j7:β=>bif decide (qf0 s (1+a13+1)=43) then (j7) else (nX bot (1+a13+1) z2 (bif decide (qf0 s (1+a13+1)=45) then (j7) else (j6)))))) else (j6)))) (fun j5:β=>bif decide (qf0 s (1+a13)=101) then (j5) else (nX bot (1+a13) z2 (bif decide (qf0 s (1+a13)=69)
 then (j5) else z11))))) else z11)) (fun _=>bot)))) (fun _=>bot)))))) else (bif decide (a0<z1) then (nX bot (a0) z2 (jn (nI bot (a0+1) (jn (need bot z8 (PR.bnd bot z6 (fun a16=>bif decide (0<a16) then (need bot z8 (PR.bnd bot z6 (fun a19=>nI bot (a0+1+a19) (k (.ret (.int .i64 (a0+1+a19)) Heap.empty))) (fun _=>bot))) else z7) (fun _=>bot))) (fun j9:β=>bif decide (a0+1<z1) then (nX bot (a0+1)
 z2 (jn (nI bot (a0+1+1) (need bot z10 (PR.bnd bot z9 (fun a15=>bif decide (0<a15) then (need bot z10 (PR.bnd bot z9 (fun a18=>nI bot (a0+1+1+a18) (k (.ret (.int .i64 (a0+1+1+a18)) Heap.empty))) (fun _=>bot))) else z7) (fun _=>bot)))) (fun j10:β=>bif decide (qf0 s (a0+1)=43) then (j10) else (nX bot (a0+1) z2 (bif decide (qf0 s (a0+1)=45) then (j10) else (j9)))))) else (j9)))) (fun
 j8:β=>bif decide (qf0 s a0=101) then (j8) else (nX bot (a0) z2 (bif decide (qf0 s a0=69) then (j8) else z7))))) else z7)) (fun j1:β=>bif decide (0<a0) then (bif decide (a0<z1) then (nX bot (a0) z2 (bif decide (qf0 s a0=46) then (nI bot (a0+1) (need bot z8 (PR.bnd bot z6 (fun a7=>letI z16:=(k (.ret (.int .i64 (a0+(1+a7))) Heap.empty));letI z17:=(a0+(1+a7)+1+1);letI z18:=(X.1 (.call 151
 [(.str (List.drop (Int.toNat (a0+(1+a7)+1)) s))] Heap.empty));letI z19:=(X.1 (.call 151 [(.str (List.drop (Int.toNat z17) s))] Heap.empty));letI z20:=(((0:Int)≤(a0+(1+a7)+1))∧((a0+(1+a7)+1)≤(z1)));letI z21:=(((0:Int)≤z17)∧(z17≤(z1)));nI bot (1+a7) (nI bot (a0+(1+a7)) (bif decide (a0+(1+a7)<z1) then (nX bot (a0+(1+a7)) z2 (jn (nI bot (a0+(1+a7)+1) (jn (need bot z20 (PR.bnd bot z18 (fun a20=>bif
 decide (0<a20) then (need bot z20 (PR.bnd bot z18 (fun a23=>nI bot (a0+(1+a7)+1+a23) (k (.ret (.int .i64 (a0+(1+a7)+1+a23)) Heap.empty))) (fun _=>bot))) else z16) (fun _=>bot))) (fun j3:β=>bif decide (a0+(1+a7)+1<z1) then (nX bot (a0+(1+a7)+1) z2 (jn (nI bot z17 (need bot z21 (PR.bnd bot z19 (fun a19=>bif decide (0<a19) then (need bot z21 (PR.bnd bot z19 (fun a22=>nI bot (a0+(1+a7)+1+1+a22) (k
 (.ret (.int .i64 (a0+(1+a7)+1+1+a22)) Heap.empty))) (fun _=>bot))) else z16) (fun _=>bot)))) (fun j4:β=>bif decide (qf0 s (a0+(1+a7)+1)=43) then (j4) else (nX bot (a0+(1+a7)+1) z2 (bif decide (qf0 s (a0+(1+a7)+1)=45) then (j4) else (j3)))))) else (j3)))) (fun j2:β=>bif decide (qf0 s (a0+(1+a7))=101) then (j2) else (nX bot (a0+(1+a7)) z2 (bif decide (qf0 s (a0+(1+a7))=69) then (j2)
 else z16))))) else z16))) (fun _=>bot)))) else (j1))) else (j1)) else (j1))) (fun _=>bot)):=by kernel_rfl
theorem KI1 :evN PP EP CP (qg0 X) ih bot (.call 152 [] Heap.empty) k =
 k (.ret (.osl 1 [(.str [63,47,47]),(.str [47,47,61]),(.str [33,61]),(.str [61,61]),(.str [60,61]),(.str [62,61]),(.str [124,61]),(.str [43,61]),(.str [45,61]),(.str [42,61]),(.str [47,61]),(.str [37,61]),(.str [47,47]),(.str [46,46]),(.str [46]),(.str [91]),(.str [93]),(.str [40]),(.str [41]),(.str [123]),(.str [125]),(.str [44]),(.str [58]),(.str [59]),(.str [61]),(.str [124]),(.str [43]),(.str [45]),(.str [42]),(.str [47]),(.str [37]),(.str [60]),(.str [62]),(.str [63])]) Heap.empty):=by kernel_rfl
theorem KH1 (s:List UInt8):evN PP EP CP (qg0 X) ih bot (.call 110 [.str s] Heap.empty) k =
 PR.bnd bot (X.4 (.call 152 [] Heap.empty)) (fun a0 =>
 PR.bnd bot (X.14 (.code (.loop (lpB PP 110 0)) ((base 110 39).on [(0,(.str (s))),(3,(.osl 1 (a0))),(4,(.int .i64 0))]) Heap.empty)) (fun a1 =>
 bif a1.1 then (k (.ret (.int .i64 0) Heap.empty))
 else (k (.ret (.int .i64 (a1.2.2)) Heap.empty)))
 (fun e1=>k (qN e1)))
 (fun _=>bot):=by kernel_rfl
theorem jI1 (s:List UInt8) (es:List V) (i:Int):evN PP EP CP (qg0 X) ih bot (.code (.loop (lpB PP 110 0)) ((base 110 39).on [(0,.str s),(3,.osl 1 es),(4,.int .i64 i)]) Heap.empty) k =
 (letI z1:=(List.length (gS 1 es (Int.toNat i*1) 0));letI z2:=(ldX PP 9 1 (es) (Int.toNat i*1));letI z3:=(List.length es);letI z4:=(0,(.str (s)));letI z5:=(↑(List.length s):Int);bif decide (i<(↑z3:Int)) then (nX bot (i) z3 (need bot z2 (jn (nI bot (i+1) (PR.bnd bot (X.14 (.code (.loop (lpB PP 110 0)) ((base 110 39).on [z4,(3,(.osl 1 (es))),(4,(.int .i64 (i+1)))]) Heap.empty)) (fun a11=>letI
 z6:=(0,(.str (a11.2.1)));bif a11.1 then (k (.code (.exit 0) ((base 110 39).on [z6]) Heap.empty)) else (k (.code .ret ((base 110 39).on [z6,(2,(.int .i64 (a11.2.2)))]) Heap.empty))) (fun e11=>k (qN e11)))) (fun j1:β=>bif decide ((↑z1:Int)≤z5) then (nX bot (i) z3 (need bot z2 (need bot (((0:Int)≤((↑z1:Int)))∧(((↑z1:Int))≤(z5))) (nX bot (i) z3 (need bot z2 (bif decide (List.take z1 s=gS 1 es
 (Int.toNat i*1) 0) then (nX bot (i) z3 (need bot (ldC PP 9 1 (es) (Int.toNat i*1)) (k (.code .ret ((base 110 39).on [z4,(2,(.int .i64 ((↑z1:Int))))]) Heap.empty)))) else (j1))))))) else (j1))))) else (k (.code (.exit 0) ((base 110 39).on [z4]) Heap.empty))):=by kernel_rfl
theorem Kv1 (s:List UInt8):evN PP EP CP (qg0 X) ih bot (.call 102 [.str s] Heap.empty) k =
 (letI z1:=(k (.ret (.int .i64 0) Heap.empty));bif decide ((↑(List.length s):Int)<2) then z1 else (nX bot 0 (List.length s) (bif !decide (qf0 s 0=92) then z1 else (PR.bnd bot (X.14 (.code (.loop (lpB PP 102 0)) ((base 102 53).on [(0,(.str (s))),(3,(.int .i64 0))]) Heap.empty)) (fun a3=>letI z2:=(List.length a3.2.1);bif a3.1 then (nX bot 1 z2 (bif !decide (qf0 a3.2.1 1=117) then z1 else (bif
 decide ((↑z2:Int)<6) then z1 else (nX bot 2 z2 (PR.bnd bot (X.2 (.call 148 [(.int .u8 (qf0 a3.2.1 2))] Heap.empty)) (fun a9=>bif a9 then (nX bot 3 z2 (PR.bnd bot (X.2 (.call 148 [(.int .u8 (qf0 a3.2.1 3))] Heap.empty)) (fun a12=>bif a12 then (nX bot 4 z2 (PR.bnd bot (X.2 (.call 148 [(.int .u8 (qf0 a3.2.1 4))] Heap.empty)) (fun a15=>bif a15 then (nX bot 5 z2 (PR.bnd bot (X.2 (.call 148
 [(.int .u8 (qf0 a3.2.1 5))] Heap.empty)) (fun a18=>bif a18 then (k (.ret (.int .i64 6) Heap.empty)) else z1) (fun _=>bot))) else z1) (fun _=>bot))) else z1) (fun _=>bot))) else z1) (fun _=>bot)))))) else (k (.ret (.int .i64 (a3.2.2)) Heap.empty))) (fun e3=>k (qN e3)))))):=by kernel_rfl
theorem jy1 (s:List UInt8) (i:Int):evN PP EP CP (qg0 X) ih bot (.code (.loop (lpB PP 102 0)) ((base 102 53).on [(0,.str s),(3,.int .i64 i)]) Heap.empty) k =
 (letI z1:=(0,(.str (s)));bif decide (i<8) then (need bot (((0:Int)≤(i))∧((i)<8)) (nX bot 1 (List.length s) (bif decide (qf0 [34,92,47,98,102,110,114,116] i=qf0 s 1) then (k (.code .ret ((base 102 53).on [z1,(2,(.int .i64 2))]) Heap.empty)) else (nI bot (i+1) (PR.bnd bot (X.14 (.code (.loop (lpB PP 102 0)) ((base 102 53).on [z1,(3,(.int .i64 (i+1)))]) Heap.empty)) (fun a5=>bif a5.1 then (k
 (.code (.exit 0) ((base 102 53).on [(0,(.str (a5.2.1)))]) Heap.empty)) else (k (.code .ret ((base 102 53).on [(0,(.str (a5.2.1))),(2,(.int .i64 (a5.2.2)))]) Heap.empty))) (fun e5=>k (qN e5))))))) else (k (.code (.exit 0) ((base 102 53).on [z1]) Heap.empty))):=by kernel_rfl
theorem KO1 (s:List UInt8):evN PP EP CP (qg0 X) ih bot (.call 68 [.str s] Heap.empty) k =
 PR.bnd bot (X.13 (.code (.loop (lpB PP 68 0)) ((base 68 30).on [(0,(.str (s))),(3,(.int .i64 0))]) Heap.empty)) (fun a0 =>
 bif a0.1 then (k (.ret (.int .i64 (a0.2.2.1)) Heap.empty))
 else (k (.ret (.int .i64 (a0.2.2.2)) Heap.empty)))
 (fun e0=>k (qN e0)):=by kernel_rfl
theorem jK1 (s:List UInt8) (n:Int):evN PP EP CP (qg0 X) ih bot (.code (.loop (lpB PP 68 0)) ((base 68 30).on [(0,.str s),(3,.int .i64 n)]) Heap.empty) k =
 (letI z3:=(0,(.str (s)));letI z1:=(k (.code (.exit 0) ((base 68 30).on [z3,(3,(.int .i64 (n)))]) Heap.empty));letI z2:=(List.length s);bif decide (n<(↑z2:Int)) then (nX bot (n) z2 (bif !decide (qf0 s n=34) then (nX bot (n) z2 (bif decide (qf0 s n=92) then (need bot (((0:Int)≤(n))∧((n)≤((↑z2:Int)))) (PR.bnd bot (X.1 (.call 102 [(.str (List.drop (Int.toNat n) s))] Heap.empty)) (fun a6=>bif
 decide (a6=0) then (k (.code .ret ((base 68 30).on [z3,(2,(.int .i64 (n))),(3,(.int .i64 (n)))]) Heap.empty)) else (nI bot (n+a6) (PR.bnd bot (X.13 (.code (.loop (lpB PP 68 0)) ((base 68 30).on [z3,(3,(.int .i64 (n+a6)))]) Heap.empty)) (fun a9=>letI z4:=(3,(.int .i64 (a9.2.2.1)));bif a9.1 then (k (.code (.exit 0) ((base 68 30).on [(0,(.str (a9.2.1))),z4]) Heap.empty)) else (k (.code .ret ((base 68
 30).on [(0,(.str (a9.2.1))),(2,(.int .i64 (a9.2.2.2))),z4]) Heap.empty))) (fun e9=>k (qN e9))))) (fun _=>bot))) else (nI bot (n+1) (PR.bnd bot (X.13 (.code (.loop (lpB PP 68 0)) ((base 68 30).on [z3,(3,(.int .i64 (n+1)))]) Heap.empty)) (fun a6=>letI z5:=(3,(.int .i64 (a6.2.2.1)));bif a6.1 then (k (.code (.exit 0) ((base 68 30).on [(0,(.str (a6.2.1))),z5]) Heap.empty)) else (k (.code .ret ((base
 68 30).on [(0,(.str (a6.2.1))),(2,(.int .i64 (a6.2.2.2))),z5]) Heap.empty))) (fun e6=>k (qN e6)))))) else z1)) else z1):=by kernel_rfl
theorem KR1 (s:List UInt8):evN PP EP CP (qg0 X) ih bot (.call 70 [.str s] Heap.empty) k =
 (letI z7:=(List.length s);letI z1:=((↑z7:Int));letI z2:=(((0:Int)≤1)∧((1:Int)≤z1));letI z3:=(X.1 (.call 108 [(.str (List.drop 1 s))] Heap.empty));letI z4:=(X.1 (.call 106 [(.str (List.drop 1 s))] Heap.empty));letI z5:=(X.1 (.call 106 [(.str (s))] Heap.empty));letI z6:=(X.1 (.call 109 [(.str (s))] Heap.empty));nX bot 0 z7 (PR.bnd bot (X.2 (.call 103 [(.int .u8 (qf0 s 0))] Heap.empty)) (fun
 a1=>bif a1 then (PR.bnd bot (X.1 (.call 104 [(.str (s))] Heap.empty)) (fun a3=>need bot (((0:Int)≤(a3))∧((a3)≤z1)) (k (.ret (.agg [(.int .i64 1),(.str (List.take (Int.toNat a3) s))]) Heap.empty))) (fun _=>bot)) else (bif decide (qf0 s 0=35) then (PR.bnd bot (X.1 (.call 105 [(.str (s))] Heap.empty)) (fun a4=>need bot (((0:Int)≤(a4))∧((a4)≤z1)) (k (.ret (.agg [(.int .i64 2),(.str (List.take
 (Int.toNat a4) s))]) Heap.empty))) (fun _=>bot)) else (PR.bnd bot z5 (fun a4=>bif decide (0<a4) then (PR.bnd bot z5 (fun a6=>need bot (((0:Int)≤(a6))∧((a6)≤z1)) (k (.ret (.agg [(.int .i64 3),(.str (List.take (Int.toNat a6) s))]) Heap.empty))) (fun _=>bot)) else (jn (jn (jn (PR.bnd bot z6 (fun a19=>bif decide (0<a19) then (PR.bnd bot z6 (fun a21=>need bot (((0:Int)≤(a21))∧((a21)≤z1)) (k (.ret
 (.agg [(.int .i64 6),(.str (List.take (Int.toNat a21) s))]) Heap.empty))) (fun _=>bot)) else (bif decide (qf0 s 0=34) then (need bot z2 (k (.ret (.agg [(.int .i64 7),(.str (List.take 1 s))]) Heap.empty))) else (PR.bnd bot (X.1 (.call 110 [(.str (s))] Heap.empty)) (fun a22=>need bot (((0:Int)≤(a22))∧((a22)≤z1)) (k (.ret (.agg [(.int .i64 13),(.str (List.take (Int.toNat a22) s))]) Heap.empty)))
 (fun _=>bot)))) (fun _=>bot)) (fun j3:β=>bif decide (qf0 s 0=64) then (need bot z2 (PR.bnd bot z3 (fun a17=>bif decide (0<a17) then (need bot z2 (PR.bnd bot z3 (fun a20=>nI bot (1+a20) (need bot (((0:Int)≤(1+a20))∧((1+a20)≤z1)) (k (.ret (.agg [(.int .i64 12),(.str (List.take (Int.toNat (1+a20)) s))]) Heap.empty)))) (fun _=>bot))) else (j3)) (fun _=>bot))) else (j3))) (fun j2:β=>bif
 decide (qf0 s 0=36) then (need bot z2 (PR.bnd bot z4 (fun a13=>bif decide (0<a13) then (need bot z2 (PR.bnd bot z4 (fun a16=>nI bot (1+a16) (need bot (((0:Int)≤(1+a16))∧((1+a16)≤z1)) (k (.ret (.agg [(.int .i64 5),(.str (List.take (Int.toNat (1+a16)) s))]) Heap.empty)))) (fun _=>bot))) else (j2)) (fun _=>bot))) else (j2))) (fun j1:β=>bif decide (qf0 s 0=46) then (bif decide (1<(↑z7:Int))
 then (nX bot 1 z7 (PR.bnd bot (X.2 (.call 107 [(.int .u8 (qf0 s 1))] Heap.empty)) (fun a9=>bif a9 then (need bot z2 (PR.bnd bot z3 (fun a12=>nI bot (1+a12) (need bot (((0:Int)≤(1+a12))∧((1+a12)≤z1)) (k (.ret (.agg [(.int .i64 4),(.str (List.take (Int.toNat (1+a12)) s))]) Heap.empty)))) (fun _=>bot))) else (j1)) (fun _=>bot))) else (j1)) else (j1)))) (fun _=>bot)))) (fun _=>bot))):=by kernel_rfl
theorem KB1 (c:Int):evN PP EP CP (qg0 X) ih bot (.call 101 [.int .u8 c] Heap.empty) k =
 (letI z1:=(k (.ret (.int .i64 (-1)) Heap.empty));letI z2:=(k (.ret (.int .i64 3) Heap.empty));bif decide (c<128) then (k (.ret (.int .i64 0) Heap.empty)) else (jn (bif decide (224≤c) then (bif decide (c≤239) then (k (.ret (.int .i64 2) Heap.empty)) else (bif decide (240≤c) then (bif decide (c≤244) then z2 else z1) else z1)) else (bif decide (240≤c) then (bif decide (c≤244) then z2 else z1) else
 z1)) (fun j1:β=>bif decide (194≤c) then (bif decide (c≤223) then (k (.ret (.int .i64 1) Heap.empty)) else (j1)) else (j1)))):=by kernel_rfl
theorem ev_one (s:List UInt8):evN PP EP CP (qg0 X) ih bot (.call 67 [.str s] Heap.empty) k =
 (letI z1:=(k (.ret (.int .i64 0) Heap.empty));letI z2:=(X.1 (.call 101 [(.int .u8 (qf0 s 0))] Heap.empty));letI z3:=[V.int IntKind.i64 0,V.int IntKind.i64 128,V.int IntKind.i64 2048,V.int IntKind.i64 65536];letI z4:=(List.length s);bif decide (s=[]) then z1 else (nX bot 0 z4 (PR.bnd bot z2 (fun a2=>bif decide (a2<0) then z1 else (nX bot 0 z4 (PR.bnd bot z2 (fun a5=>bif decide ((↑z4:Int)≤a5)
 then z1 else (nX bot 0 z4 (PR.bnd bot z2 (fun a8=>letI z5:=(64/2^Int.toNat a8);letI z6:=(3,(.int .i64 (a8)));nX bot 0 z4 (nI bot (qf0 s 0) (bif decide (0<a8) then (need bot (((0:Int)≤(a8))∧((a8)≤18446744073709551615)) (need bot (qQ0 BinOp.shr IntKind.i64 64 a8=some (V.int IntKind.i64 z5)) (need bot (((0:Int)≤(qf0 s 0))∧((0:Int)<z5)) (PR.bnd bot (X.15 (.code (.loop (lpB PP 67 0)) ((base 67
 80).on [(0,(.str (s))),z6,(4,(.int .i64 (qf0 s 0%z5))),(5,(.int .i64 1))]) Heap.empty)) (fun a15=>letI z7:=(Int.toNat a15.2.2.1*1);bif a15.1 then (need bot (((0:Int)≤(a15.2.2.1))∧((a15.2.2.1)<4)) (need bot (ldC PP 3 1 [(.int .i64 0),(.int .i64 128),(.int .i64 2048),(.int .i64 65536)] z7) (bif decide (a15.2.2.2.1<gI 1 z3 z7 0) then z1 else (jn (bif decide (1114111<a15.2.2.2.1) then z1 else (nI
 bot (a15.2.2.1+1) (k (.ret (.int .i64 (a15.2.2.1+1)) Heap.empty)))) (fun j1:β=>bif decide (55296≤a15.2.2.2.1) then (bif decide (a15.2.2.2.1≤57343) then z1 else (j1)) else (j1)))))) else (k (.ret (.int .i64 (a15.2.2.2.2)) Heap.empty))) (fun e15=>k (qN e15)))))) else (PR.bnd bot (X.15 (.code (.loop (lpB PP 67 0)) ((base 67 80).on [(0,(.str (s))),z6,(4,(.int .i64 (qf0 s 0))),(5,(.int .i64 1))])
 Heap.empty)) (fun a12=>letI z8:=(Int.toNat a12.2.2.1*1);bif a12.1 then (need bot (((0:Int)≤(a12.2.2.1))∧((a12.2.2.1)<4)) (need bot (ldC PP 3 1 [(.int .i64 0),(.int .i64 128),(.int .i64 2048),(.int .i64 65536)] z8) (bif decide (a12.2.2.2.1<gI 1 z3 z8 0) then z1 else (jn (bif decide (1114111<a12.2.2.2.1) then z1 else (nI bot (a12.2.2.1+1) (k (.ret (.int .i64 (a12.2.2.1+1)) Heap.empty)))) (fun
 j2:β=>bif decide (55296≤a12.2.2.2.1) then (bif decide (a12.2.2.2.1≤57343) then z1 else (j2)) else (j2)))))) else (k (.ret (.int .i64 (a12.2.2.2.2)) Heap.empty))) (fun e12=>k (qN e12)))))) (fun _=>bot)))) (fun _=>bot)))) (fun _=>bot)))):=by kernel_rfl
theorem Kr1 (s:List UInt8):evN PP EP CP (qg0 X) ih bot (.call 31 [.str s] Heap.empty) k =
 PR.bnd bot (X.14 (.code (.loop (lpB PP 31 0)) ((base 31 19).on [(0,(.str (s))),(3,(.int .i64 0))]) Heap.empty)) (fun a0 =>
 bif a0.1 then (k (.ret (.int .i64 (-1)) Heap.empty))
 else (k (.ret (.int .i64 (a0.2.2)) Heap.empty)))
 (fun e0=>k (qN e0)):=by kernel_rfl
theorem jw1 (s:List UInt8) (at1:Int):evN PP EP CP (qg0 X) ih bot (.code (.loop (lpB PP 31 0)) ((base 31 19).on [(0,.str s),(3,.int .i64 at1)]) Heap.empty) k =
 (letI z1:=(0,(.str (s)));letI z2:=(↑(List.length s):Int);bif decide (at1<z2) then (need bot (((0:Int)≤(at1))∧((at1)≤(z2))) (PR.bnd bot (X.1 (.call 67 [(.str (List.drop (Int.toNat at1) s))] Heap.empty)) (fun a2=>bif decide (a2=0) then (k (.code .ret ((base 31 19).on [z1,(2,(.int .i64 (at1)))]) Heap.empty)) else (nI bot (at1+a2) (PR.bnd bot (X.14 (.code (.loop (lpB PP 31 0)) ((base 31 19).on
 [z1,(3,(.int .i64 (at1+a2)))]) Heap.empty)) (fun a5=>bif a5.1 then (k (.code (.exit 0) ((base 31 19).on [(0,(.str (a5.2.1)))]) Heap.empty)) else (k (.code .ret ((base 31 19).on [(0,(.str (a5.2.1))),(2,(.int .i64 (a5.2.2)))]) Heap.empty))) (fun e5=>k (qN e5))))) (fun _=>bot))) else (k (.code (.exit 0) ((base 31 19).on [z1]) Heap.empty))):=by kernel_rfl
theorem jH1 (s:List UInt8) (n r i:Int):evN PP EP CP (qg0 X) ih bot (.code (.loop (lpB PP 67 0)) ((base 67 80).on [(0,.str s),(3,.int .i64 n),(4,.int .i64 r),(5,.int .i64 i)]) Heap.empty) k =
 (letI z1:=(k (.code .ret ((base 67 80).on [(0,(.str (s))),(2,(.int .i64 0)),(3,(.int .i64 (n))),(4,(.int .i64 (r)))]) Heap.empty));letI z2:=(List.length s);letI z3:=(64*r+qf0 s i%64);bif decide (i≤n) then (nX bot (i) z2 (bif decide (qf0 s i<128) then z1 else (nX bot (i) z2 (bif decide (191<qf0 s i) then z1 else (nI bot (64*r) (nX bot (i) z2 (need bot (((0:Int)≤(qf0 s i))∧((0:Int)<64))
 (nI bot (qf0 s i%64) (nI bot z3 (nI bot (i+1) (PR.bnd bot (X.15 (.code (.loop (lpB PP 67 0)) ((base 67 80).on [(0,(.str (s))),(3,(.int .i64 (n))),(4,(.int .i64 z3)),(5,(.int .i64 (i+1)))]) Heap.empty)) (fun a11=>letI z4:=(4,(.int .i64 (a11.2.2.2.1)));letI z5:=(3,(.int .i64 (a11.2.2.1)));letI z6:=(0,(.str (a11.2.1)));bif a11.1 then (k (.code (.exit 0) ((base 67 80).on [z6,z5,z4]) Heap.empty))
 else (k (.code .ret ((base 67 80).on [z6,(2,(.int .i64 (a11.2.2.2.2))),z5,z4]) Heap.empty))) (fun e11=>k (qN e11))))))))))))) else (k (.code (.exit 0) ((base 67 80).on [(0,(.str (s))),(3,(.int .i64 (n))),(4,(.int .i64 (r)))]) Heap.empty))):=by kernel_rfl
theorem KQ1 (s:List UInt8) (at1:Int) (ver n:Nat) (l o:List V) (i:Bool) (e kk:Int) (w:List UInt8):evN PP EP CP (qg0 X) ih bot (.call 69 [.agg [.str s,.int .i64 at1,.sl 0 ver 0 n none,.osl 1 o,.bool i,.int .i64 e],.agg [.int .i64 kk,.str w]] (hpL ver l)) k =
 (letI z1:=[V.agg [V.int IntKind.i64 kk,V.str w]];letI z2:=(at1+(↑(List.length w):Int));letI z3:=(n+List.length z1);letI z4:=(Nat.succ ver);need bot (((ver)=(ver))∧((z1≠[])∧(((n)=(List.length l))∧((0≤(n))∧((z3≤1099511627776)∧((z3*24)≤1099511627776)))))) (nI bot z2 (bif i then (need bot (GndR (l++z1)) (k (.ret (.agg [(.str (s)),(.int .i64 z2),(.sl 0 z4 0 z3 none),(.osl 1 (o)),(.bool true),(.int .i64
 (e))]) (hpL z4 (l++z1))))) else (need bot (GndR (l++z1)) (k (.ret (.agg [(.str (s)),(.int .i64 z2),(.sl 0 z4 0 z3 none),(.osl 1 (o)),(.bool false),(.int .i64 (e))]) (hpL z4 (l++z1)))))))):=by kernel_rfl
theorem KP1 (s:List UInt8) (at1:Int) (o:List V) (i:Bool) (e kk:Int) (w:List UInt8):evN PP EP CP (qg0 X) ih bot (.call 69 [.agg [.str s,.int .i64 at1,.nils,.osl 1 o,.bool i,.int .i64 e],.agg [.int .i64 kk,.str w]] Heap.empty) k =
 (letI z1:=(at1+(↑(List.length w):Int));letI z2:=(hpL 0 [(.agg [(.int .i64 (kk)),(.str (w))])]);letI z3:=(GndR [(.agg [(.int .i64 (kk)),(.str (w))])]);need bot (([V.agg [V.int IntKind.i64 kk,V.str w]]≠[])∧((1≤1099511627776)∧(24≤1099511627776))) (nI bot z1 (bif i then (need bot z3 (k (.ret (.agg [(.str (s)),(.int .i64 z1),(.sl 0 0 0 1 none),(.osl 1 (o)),(.bool true),(.int .i64 (e))]) z2))) else
 (need bot z3 (k (.ret (.agg [(.str (s)),(.int .i64 z1),(.sl 0 0 0 1 none),(.osl 1 (o)),(.bool false),(.int .i64 (e))]) z2)))))):=by kernel_rfl
theorem Kx1 (s:List UInt8) (at1:Int) (ver n:Nat) (l o:List V) (e:Int):evN PP EP CP (qg0 X) ih bot (.call 32 [.agg [.str s,.int .i64 at1,.sl 0 ver 0 n none,.osl 1 o,.bool true,.int .i64 e]] (hpL ver l)) k =
 (letI z1:=(List.drop (Int.toNat at1) s);letI z4:=(hpL (ver) (l));letI z2:=(need bot (GndR (l)) (k (.ret (.agg [(.str (s)),(.int .i64 (at1)),(.sl 0 (ver) 0 (n) none),(.osl 1 (o)),(.bool true),(.int .i64 12)]) z4)));letI z3:=(↑(List.length z1):Int);letI z5:=(List.length o);letI z6:=(o++[V.int IntKind.i64 0]);letI z7:=([V.int IntKind.i64 (0:Int)]≠[]);letI z8:=(((0:Int)≤2)∧((2:Int)≤(z3)));letI
 z9:=(List.length o+1);need bot (((0:Int)≤(at1))∧((at1)≤((↑(List.length s):Int)))) (PR.bnd bot (X.1 (.call 68 [(.str z1)] Heap.empty)) (fun a1=>bif decide (0<a1) then (need bot (((0:Int)≤(a1))∧((a1)≤(z3))) (need bot (GndR (l)) (PR.bnd bot (X.11 (.call 69 [(.agg [(.str (s)),(.int .i64 (at1)),(.sl 0 (ver) 0 (n) none),(.osl 1 (o)),(.bool true),(.int .i64 (e))]),(.agg [(.int .i64 8),(.str (List.take
 (Int.toNat a1) z1))])] z4)) (fun a5=>letI z10:=(hpL (a5.ver) (a5.l));bif a5.9 then (need bot (GndR (a5.l)) (bif a5.i then (need bot (GndR (a5.l)) (k (.ret (.agg [(.str (a5.s)),(.int .i64 (a5.at1)),(.sl 0 (a5.ver) 0 (a5.n) none),(.osl 1 (a5.o)),(.bool true),(.int .i64 (a5.e))]) z10))) else (need bot (GndR (a5.l)) (k (.ret (.agg [(.str (a5.s)),(.int .i64 (a5.at1)),(.sl 0 (a5.ver) 0 (a5.n)
 none),(.osl 1 (a5.o)),(.bool false),(.int .i64 (a5.e))]) z10))))) else (bot)) (fun _=>bot)))) else (nX bot 0 (List.length z1) (bif decide (qf0 z1 0=34) then (need bot (((0:Int)≤1)∧((1:Int)≤(z3))) (need bot (GndR (l)) (PR.bnd bot (X.11 (.call 69 [(.agg [(.str (s)),(.int .i64 (at1)),(.sl 0 (ver) 0 (n) none),(.osl 1 (o)),(.bool false),(.int .i64 (e))]),(.agg [(.int .i64 11),(.str (List.take 1
 z1))])] z4)) (fun a7=>letI z11:=(hpL (a7.ver) (a7.l));bif a7.9 then (need bot (GndR (a7.l)) (bif a7.i then (need bot (GndR (a7.l)) (k (.ret (.agg [(.str (a7.s)),(.int .i64 (a7.at1)),(.sl 0 (a7.ver) 0 (a7.n) none),(.osl 1 (a7.o)),(.bool true),(.int .i64 (a7.e))]) z11))) else (need bot (GndR (a7.l)) (k (.ret (.agg [(.str (a7.s)),(.int .i64 (a7.at1)),(.sl 0 (a7.ver) 0 (a7.n) none),(.osl 1
 (a7.o)),(.bool false),(.int .i64 (a7.e))]) z11))))) else (bot)) (fun _=>bot)))) else (bif decide (z3<2) then z2 else (nX bot 1 (List.length z1) (bif !decide (qf0 z1 1=40) then z2 else (bif decide (256≤(↑z5:Int)) then (need bot (GndR (l)) (k (.ret (.agg [(.str (s)),(.int .i64 (at1)),(.sl 0 (ver) 0 (n) none),(.osl 1 (o)),(.bool true),(.int .i64 21)]) z4))) else (bif qn0 o then (need bot
 (z7∧((1≤1099511627776)∧(8≤1099511627776))) (need bot ((0=0)∧((0=0)∧((1=1)∧(GndR [(.int .i64 0)])))) (need bot z8 (need bot (GndR (l)) (PR.bnd bot (X.11 (.call 69 [(.agg [(.str (s)),(.int .i64 (at1)),(.sl 0 (ver) 0 (n) none),(.osl 1 [(.int .i64 0)]),(.bool false),(.int .i64 (e))]),(.agg [(.int .i64 9),(.str (List.take 2 z1))])] z4)) (fun a14=>letI z12:=(GndR (a14.l));letI z13:=(hpL (a14.ver)
 (a14.l));bif a14.9 then (need bot z12 (bif a14.i then (need bot z12 (k (.ret (.agg [(.str (a14.s)),(.int .i64 (a14.at1)),(.sl 0 (a14.ver) 0 (a14.n) none),(.osl 1 (a14.o)),(.bool true),(.int .i64 (a14.e))]) z13))) else (need bot z12 (k (.ret (.agg [(.str (a14.s)),(.int .i64 (a14.at1)),(.sl 0 (a14.ver) 0 (a14.n) none),(.osl 1 (a14.o)),(.bool false),(.int .i64 (a14.e))]) z13))))) else (bot)) (fun
 e14=>bot)))))) else (need bot ((o≠[])∧((z5≤1099511627776)∧((List.length o*8)≤1099511627776))) (need bot ((0=0)∧(z7∧((z5=z5)∧((0≤z5)∧((z9≤1099511627776)∧((z9*8)≤1099511627776)))))) (need bot ((1=1)∧((0=0)∧((z9=(List.length z6))∧(GndR z6)))) (need bot z8 (need bot (GndR (l)) (PR.bnd bot (X.11 (.call 69 [(.agg [(.str (s)),(.int .i64 (at1)),(.sl 0 (ver) 0 (n) none),(.osl 1 z6),(.bool false),(.int .i64
 (e))]),(.agg [(.int .i64 9),(.str (List.take 2 z1))])] z4)) (fun a15=>letI z14:=(GndR (a15.l));letI z15:=(hpL (a15.ver) (a15.l));bif a15.9 then (need bot z14 (bif a15.i then (need bot z14 (k (.ret (.agg [(.str (a15.s)),(.int .i64 (a15.at1)),(.sl 0 (a15.ver) 0 (a15.n) none),(.osl 1 (a15.o)),(.bool true),(.int .i64 (a15.e))]) z15))) else (need bot z14 (k (.ret (.agg [(.str (a15.s)),(.int .i64
 (a15.at1)),(.sl 0 (a15.ver) 0 (a15.n) none),(.osl 1 (a15.o)),(.bool false),(.int .i64 (a15.e))]) z15))))) else (bot)) (fun _=>bot))))))))))))))) (fun _=>bot))):=by kernel_rfl
theorem KD1 (es:List V) (g n:Int):evN PP EP CP (qg0 X) ih bot (.call 20 [.ptr 0 0 0,.int .i64 n] (hpG es g)) k =
 (letI z1:=(Int.toNat (g+1-1)*1);letI z2:=(k (.ret (.int .i64 0) (hpG (es) (g))));bif decide ((↑(List.length es):Int)≤g) then z2 else (bif decide (n<1) then z2 else (nI bot (g+1) (nI bot (g+1-1) (nX bot (g+1-1) (List.length es) (need bot (ldX PP 5 1 (es) z1) (nI bot (gI 1 es z1 0) (need bot (((0:Int)≤(gI 1 es z1 0))∧((0:Int)<(n))) (k (.ret (.int .i64 (gI 1 es z1 0%n)) (hpG (es) (g+1)))))))))))):=by kernel_rfl
theorem ev_of (es:List V) (g:Int) (l:List V) (c:Nat):evN PP EP CP (qg0 X) ih bot (.call 34 [.ptr 0 0 0,.gsl 1 l (some c)] (hpG es g)) k =
 PR.bnd bot (X.7 (.call 20 [(.ptr 0 0 0),(.int .i64 ((↑(List.length l):Int)))] (hpG (es) (g)))) (fun a0 =>
 nX bot (a0.2.2) (List.length l) (need bot (ldC PP 9 1 (l) (Int.toNat a0.2.2*1)) (k (.ret (.str (gS 1 l (Int.toNat a0.2.2*1) 0)) (hpG (a0.1) (a0.2.1))))))
 (fun _=>bot):=by kernel_rfl
theorem KC1 (es:List V) (g:Int):evN PP EP CP (qg0 X) ih bot (.call 37 [.ptr 0 0 0] (hpG es g)) k =
 PR.bnd bot (X.6 (.call 34 [(.ptr 0 0 0),(.gsl 1 [(.str [102]),(.str [103]),(.str [120]),(.str [121]),(.str [109,97,112])] (some 5))] (hpG (es) (g)))) (fun a0 =>
 k (.ret (.str (a0.2.2)) (hpG (a0.1) (a0.2.1))))
 (fun _=>bot):=by kernel_rfl
theorem KL1 (es:List V) (g:Int):evN PP EP CP (qg0 X) ih bot (.call 38 [.ptr 0 0 0] (hpG es g)) k =
 PR.bnd bot (X.6 (.call 34 [(.ptr 0 0 0),(.gsl 1 [(.str []),(.str []),(.str [40,120,41]),(.str [40,102,59,32,36,121,41]),(.str [40,36,120,41]),(.str [40,103,59,32,120,41])] (some 6))] (hpG (es) (g)))) (fun a0 =>
 k (.ret (.str (a0.2.2)) (hpG (a0.1) (a0.2.1))))
 (fun _=>bot):=by kernel_rfl
theorem jL1 (es:List V) (g d:Int):evN PP EP CP (qg0 X) ih bot (.call 21 [.ptr 0 0 0,.int .i64 d] (hpG es g)) k =
 (letI z1:=[100,101,102,32];letI z2:=[108,97,98,101,108,32,36];letI z3:=[116,114,121,32];letI z4:=[32,97,115,32];letI z5:=[32,35,32,110,10,32,124,32];letI z6:=[32,99,97,116,99,104,32];jn (PR.bnd bot (X.6 (.call 34 [(.ptr 0 0 0),(.gsl 1 [(.str [46]),(.str [49]),(.str [46,97]),(.str [36,120]),(.str [102]),(.str [34,115,34]),(.str [46,46]),(.str [50,46,53,101,49]),(.str [64,106,115,111,110]),(.str
 [103,40,49,41])] (some 10))] (hpG (es) (g)))) (fun a1=>k (.ret (.str (a1.2.2)) (hpG (a1.1) (a1.2.1)))) (fun _=>bot)) (fun j1:β=>bif decide (d≤0) then (j1) else (bif decide ((↑(List.length es):Int)≤g) then (j1) else (PR.bnd bot (X.7 (.call 20 [(.ptr 0 0 0),(.int .i64 14)] (hpG (es) (g)))) (fun a2=>letI z7:=(X.6 (.call 35 [(.ptr 0 0 0),(.int .i64 (d-1))] (hpG (a2.1) (a2.2.1))));letI z8:=(X.6 (.call
 21 [(.ptr 0 0 0),(.int .i64 (d-1))] (hpG (a2.1) (a2.2.1))));letI z9:=(X.6 (.call 37 [(.ptr 0 0 0)] (hpG (a2.1) (a2.2.1))));jn (nI bot (d-1) (PR.bnd bot z8 (fun a5=>need bot ((List.length a5.2.2+1)≤1099511627776) (PR.bnd bot (X.6 (.call 34 [(.ptr 0 0 0),(.gsl 1 [(.str [124]),(.str [44]),(.str [43]),(.str [45]),(.str [42]),(.str [47,47]),(.str [97,110,100]),(.str [111,114]),(.str [61,61]),(.str
 [61]),(.str [124,61]),(.str [60])] (some 12))] (hpG (a5.1) (a5.2.1)))) (fun a7=>need bot ((List.length (a5.2.2++[32])+List.length a7.2.2)≤1099511627776) (need bot ((List.length (a5.2.2++[32]++a7.2.2)+1)≤1099511627776) (nI bot (d-1) (PR.bnd bot (X.6 (.call 21 [(.ptr 0 0 0),(.int .i64 (d-1))] (hpG (a7.1) (a7.2.1)))) (fun a11=>need bot ((List.length (a5.2.2++[32]++a7.2.2++[32])+List.length
 a11.2.2)≤1099511627776) (k (.ret (.str (a5.2.2++[32]++a7.2.2++[32]++a11.2.2)) (hpG (a11.1) (a11.2.1))))) (fun _=>bot))))) (fun _=>bot))) (fun _=>bot))) (fun j2:β=>bif decide (a2.2.2=0) then (j2) else (bif decide (a2.2.2=1) then (j2) else (bif decide (a2.2.2=2) then (j2) else (bif decide (a2.2.2=3) then (nI bot (d-1) (PR.bnd bot z8 (fun a8=>need bot ((1+List.length a8.2.2)≤1099511627776) (need
 bot ((List.length ([40]++a8.2.2)+1)≤1099511627776) (k (.ret (.str ([40]++a8.2.2++[41])) (hpG (a8.1) (a8.2.1)))))) (fun _=>bot))) else (bif decide (a2.2.2=4) then (nI bot (d-1) (PR.bnd bot z7 (fun a9=>need bot ((List.length a9.2.2+4)≤1099511627776) (nI bot (d-1) (PR.bnd bot (X.6 (.call 36 [(.ptr 0 0 0),(.int .i64 (d-1))] (hpG (a9.1) (a9.2.1)))) (fun a12=>need bot ((List.length
 (a9.2.2++z4)+List.length a12.2.2)≤1099511627776) (need bot ((List.length (a9.2.2++z4++a12.2.2)+3)≤1099511627776) (nI bot (d-1) (PR.bnd bot (X.6 (.call 21 [(.ptr 0 0 0),(.int .i64 (d-1))] (hpG (a12.1) (a12.2.1)))) (fun a16=>need bot ((List.length (a9.2.2++z4++a12.2.2++[32,124,32])+List.length a16.2.2)≤1099511627776) (k (.ret (.str (a9.2.2++z4++a12.2.2++[32,124,32]++a16.2.2)) (hpG (a16.1)
 (a16.2.1))))) (fun _=>bot))))) (fun _=>bot)))) (fun _=>bot))) else (bif decide (a2.2.2=5) then (PR.bnd bot z9 (fun a9=>need bot ((4+List.length a9.2.2)≤1099511627776) (PR.bnd bot (X.6 (.call 38 [(.ptr 0 0 0)] (hpG (a9.1) (a9.2.1)))) (fun a11=>need bot ((List.length (z1++a9.2.2)+List.length a11.2.2)≤1099511627776) (need bot ((List.length (z1++a9.2.2++a11.2.2)+2)≤1099511627776) (nI bot (d-1)
 (PR.bnd bot (X.6 (.call 21 [(.ptr 0 0 0),(.int .i64 (d-1))] (hpG (a11.1) (a11.2.1)))) (fun a15=>need bot ((List.length (z1++a9.2.2++a11.2.2++[58,32])+List.length a15.2.2)≤1099511627776) (need bot ((List.length (z1++a9.2.2++a11.2.2++[58,32]++a15.2.2)+2)≤1099511627776) (nI bot (d-1) (PR.bnd bot (X.6 (.call 21 [(.ptr 0 0 0),(.int .i64 (d-1))] (hpG (a15.1) (a15.2.1)))) (fun a19=>need bot ((List.length
 (z1++a9.2.2++a11.2.2++[58,32]++a15.2.2++[59,32])+List.length a19.2.2)≤1099511627776) (k (.ret (.str (z1++a9.2.2++a11.2.2++[58,32]++a15.2.2++[59,32]++a19.2.2)) (hpG (a19.1) (a19.2.1))))) (fun _=>bot))))) (fun _=>bot))))) (fun _=>bot))) (fun _=>bot)) else (bif decide (a2.2.2=6) then (nI bot (d-1) (PR.bnd bot z8 (fun a11=>need bot ((1+List.length a11.2.2)≤1099511627776) (k (.ret (.str
 ([45]++a11.2.2)) (hpG (a11.1) (a11.2.1))))) (fun _=>bot))) else (bif decide (a2.2.2=7) then (PR.bnd bot z9 (fun a11=>need bot ((7+List.length a11.2.2)≤1099511627776) (need bot ((List.length (z2++a11.2.2)+3)≤1099511627776) (nI bot (d-1) (PR.bnd bot (X.6 (.call 21 [(.ptr 0 0 0),(.int .i64 (d-1))] (hpG (a11.1) (a11.2.1)))) (fun a15=>need bot ((List.length (z2++a11.2.2++[32,124,32])+List.length
 a15.2.2)≤1099511627776) (k (.ret (.str (z2++a11.2.2++[32,124,32]++a15.2.2)) (hpG (a15.1) (a15.2.1))))) (fun _=>bot))))) (fun _=>bot)) else (bif decide (a2.2.2=8) then (nI bot (d-1) (PR.bnd bot z7 (fun a13=>need bot ((4+List.length a13.2.2)≤1099511627776) (PR.bnd bot (X.7 (.call 20 [(.ptr 0 0 0),(.int .i64 2)] (hpG (a13.1) (a13.2.1)))) (fun a15=>letI z10:=(hpG (a15.1) (a15.2.1));bif decide
 (a15.2.2=1) then (need bot ((List.length (z3++a13.2.2)+7)≤1099511627776) (nI bot (d-1) (PR.bnd bot (X.6 (.call 35 [(.ptr 0 0 0),(.int .i64 (d-1))] z10)) (fun a19=>need bot ((List.length (z3++a13.2.2++z6)+List.length a19.2.2)≤1099511627776) (k (.ret (.str (z3++a13.2.2++z6++a19.2.2)) (hpG (a19.1) (a19.2.1))))) (fun _=>bot)))) else (k (.ret (.str (z3++a13.2.2)) z10))) (fun _=>bot))) (fun
 e13=>bot))) else (bif decide (a2.2.2=9) then (nI bot (d-1) (PR.bnd bot z7 (fun a14=>need bot ((List.length a14.2.2+8)≤1099511627776) (nI bot (d-1) (PR.bnd bot (X.6 (.call 21 [(.ptr 0 0 0),(.int .i64 (d-1))] (hpG (a14.1) (a14.2.1)))) (fun a17=>need bot ((List.length (a14.2.2++z5)+List.length a17.2.2)≤1099511627776) (k (.ret (.str (a14.2.2++z5++a17.2.2)) (hpG (a17.1) (a17.2.1))))) (fun _=>bot))))
 (fun _=>bot))) else (nI bot (d-1) (PR.bnd bot z7 (fun a14=>k (.ret (.str (a14.2.2)) (hpG (a14.1) (a14.2.1)))) (fun _=>bot)))))))))))))) (fun _=>bot))))):=by kernel_rfl
theorem KN1 (es:List V) (g d:Int):evN PP EP CP (qg0 X) ih bot (.call 36 [.ptr 0 0 0,.int .i64 d] (hpG es g)) k =
 (letI z1:=[44,32,97,58,32,36];PR.bnd bot (X.7 (.call 20 [(.ptr 0 0 0),(.int .i64 6)] (hpG (es) (g)))) (fun a0=>letI z2:=(X.6 (.call 37 [(.ptr 0 0 0)] (hpG (a0.1) (a0.2.1))));bif decide (a0.2.2=0) then (PR.bnd bot z2 (fun a2=>need bot ((2+List.length a2.2.2)≤1099511627776) (need bot ((List.length ([91,36]++a2.2.2)+3)≤1099511627776) (PR.bnd bot (X.6 (.call 37 [(.ptr 0 0 0)] (hpG (a2.1) (a2.2.1))))
 (fun a5=>need bot ((List.length ([91,36]++a2.2.2++[44,32,36])+List.length a5.2.2)≤1099511627776) (need bot ((List.length ([91,36]++a2.2.2++[44,32,36]++a5.2.2)+1)≤1099511627776) (k (.ret (.str ([91,36]++a2.2.2++[44,32,36]++a5.2.2++[93])) (hpG (a5.1) (a5.2.1)))))) (fun _=>bot)))) (fun _=>bot)) else (bif decide (a0.2.2=1) then (PR.bnd bot z2 (fun a3=>need bot ((2+List.length a3.2.2)≤1099511627776)
 (need bot ((List.length ([123,36]++a3.2.2)+6)≤1099511627776) (PR.bnd bot (X.6 (.call 37 [(.ptr 0 0 0)] (hpG (a3.1) (a3.2.1)))) (fun a6=>need bot ((List.length ([123,36]++a3.2.2++z1)+List.length a6.2.2)≤1099511627776) (need bot ((List.length ([123,36]++a3.2.2++z1++a6.2.2)+1)≤1099511627776) (k (.ret (.str ([123,36]++a3.2.2++z1++a6.2.2++[125])) (hpG (a6.1) (a6.2.1)))))) (fun _=>bot)))) (fun
 e3=>bot)) else (bif decide (a0.2.2=2) then (PR.bnd bot z2 (fun a4=>need bot ((2+List.length a4.2.2)≤1099511627776) (need bot ((List.length ([123,36]++a4.2.2)+4)≤1099511627776) (PR.bnd bot (X.6 (.call 37 [(.ptr 0 0 0)] (hpG (a4.1) (a4.2.1)))) (fun a7=>need bot ((List.length ([123,36]++a4.2.2++[58,32,91,36])+List.length a7.2.2)≤1099511627776) (need bot ((List.length
 ([123,36]++a4.2.2++[58,32,91,36]++a7.2.2)+11)≤1099511627776) (k (.ret (.str ([123,36]++a4.2.2++[58,32,91,36]++a7.2.2++[93,44,32,34,98,34,58,32,36,121,125])) (hpG (a7.1) (a7.2.1)))))) (fun _=>bot)))) (fun _=>bot)) else (bif decide (a0.2.2=3) then (nI bot (d-1) (PR.bnd bot (X.6 (.call 21 [(.ptr 0 0 0),(.int .i64 (d-1))] (hpG (a0.1) (a0.2.1)))) (fun a6=>need bot ((2+List.length
 a6.2.2)≤1099511627776) (need bot ((List.length ([123,40]++a6.2.2)+4)≤1099511627776) (PR.bnd bot (X.6 (.call 37 [(.ptr 0 0 0)] (hpG (a6.1) (a6.2.1)))) (fun a9=>need bot ((List.length ([123,40]++a6.2.2++[41,58,32,36])+List.length a9.2.2)≤1099511627776) (need bot ((List.length ([123,40]++a6.2.2++[41,58,32,36]++a9.2.2)+1)≤1099511627776) (k (.ret (.str ([123,40]++a6.2.2++[41,58,32,36]++a9.2.2++[125]))
 (hpG (a9.1) (a9.2.1)))))) (fun _=>bot)))) (fun _=>bot))) else (PR.bnd bot z2 (fun a5=>need bot ((1+List.length a5.2.2)≤1099511627776) (k (.ret (.str ([36]++a5.2.2)) (hpG (a5.1) (a5.2.1))))) (fun _=>bot)))))) (fun _=>bot)):=by kernel_rfl
theorem Ko1 (es:List V) (g d:Int):evN PP EP CP (qg0 X) ih bot (.call 72 [.ptr 0 0 0,.int .i64 d] (hpG es g)) k =
 (PR.bnd bot (X.6 (.call 21 [(.ptr 0 0 0),(.int .i64 (d))] (hpG (es) (g)))) (fun a0=>need bot ((1+List.length a0.2.2)≤1099511627776) (PR.bnd bot (X.7 (.call 20 [(.ptr 0 0 0),(.int .i64 2)] (hpG (a0.1) (a0.2.1)))) (fun a2=>letI z1:=(hpG (a2.1) (a2.2.1));bif decide (a2.2.2=1) then (need bot ((List.length ([40]++a0.2.2)+2)≤1099511627776) (PR.bnd bot (X.6 (.call 21 [(.ptr 0 0 0),(.int .i64 (d))] z1))
 (fun a5=>need bot ((List.length ([40]++a0.2.2++[59,32])+List.length a5.2.2)≤1099511627776) (need bot ((List.length ([40]++a0.2.2++[59,32]++a5.2.2)+1)≤1099511627776) (k (.ret (.str ([40]++a0.2.2++[59,32]++a5.2.2++[41])) (hpG (a5.1) (a5.2.1)))))) (fun _=>bot))) else (need bot ((List.length ([40]++a0.2.2)+1)≤1099511627776) (k (.ret (.str ([40]++a0.2.2++[41])) z1)))) (fun _=>bot))) (fun _=>bot)):=by kernel_rfl
theorem KG1 (es:List V) (g d:Int):evN PP EP CP (qg0 X) ih bot (.call 71 [.ptr 0 0 0,.int .i64 d] (hpG es g)) k =
 (PR.bnd bot (X.7 (.call 20 [(.ptr 0 0 0),(.int .i64 3)] (hpG (es) (g)))) (fun a0=>PR.bnd bot (X.20 (.code (.loop (lpB PP 71 0)) ((base 71 40).on [(0,(.ptr 0 0 0)),(1,(.int .i64 (d))),(5,(.str [123])),(6,(.int .i64 (a0.2.2))),(7,(.int .i64 0))]) (hpG (a0.1) (a0.2.1)))) (fun a1=>need bot ((List.length a1.2.2.2+1)≤1099511627776) (k (.ret (.str (a1.2.2.2++[125])) (hpG (a1.1) (a1.2.1))))) (fun e1=>k
 (qN e1))) (fun _=>bot)):=by kernel_rfl
theorem jG1 (es:List V) (g d:Int) (w:List UInt8) (n i:Int):evN PP EP CP (qg0 X) ih bot (.code (.loop (lpB PP 71 0)) ((base 71 40).on [(0,.ptr 0 0 0),(1,.int .i64 d),(5,.str w),(6,.int .i64 n),(7,.int .i64 i)]) (hpG es g)) k =
 (letI z1:=(X.6 (.call 34 [(.ptr 0 0 0),(.gsl 1 [(.str [97]),(.str [36,120]),(.str [34,107,34]),(.str [36,121,58,32,49]),(.str [105,102,58,32,50]),(.str [36,120,58,32,45,51])] (some 6))] (hpG (es) (g))));letI z2:=(0,(.ptr 0 0 0));letI z3:=(1,(.int .i64 (d)));letI z4:=(7,(.int .i64 (i+1)));letI z5:=(6,(.int .i64 (n)));bif decide (i≤n) then (bif decide (0<i) then (need bot ((List.length
 w+2)≤1099511627776) (PR.bnd bot z1 (fun a3=>letI z6:=(w++[44,32]++a3.2.2);need bot ((List.length (w++[44,32])+List.length a3.2.2)≤1099511627776) (PR.bnd bot (X.7 (.call 20 [(.ptr 0 0 0),(.int .i64 3)] (hpG (a3.1) (a3.2.1)))) (fun a5=>letI z7:=(hpG (a5.1) (a5.2.1));bif decide (a5.2.2=1) then (need bot ((List.length z6+3)≤1099511627776) (PR.bnd bot (X.6 (.call 21 [(.ptr 0 0 0),(.int .i64 (d))] z7))
 (fun a8=>need bot ((List.length (w++[44,32]++a3.2.2++[44,32,40])+List.length a8.2.2)≤1099511627776) (need bot ((List.length (w++[44,32]++a3.2.2++[44,32,40]++a8.2.2)+3)≤1099511627776) (PR.bnd bot (X.6 (.call 35 [(.ptr 0 0 0),(.int .i64 (d))] (hpG (a8.1) (a8.2.1)))) (fun a11=>need bot ((List.length (w++[44,32]++a3.2.2++[44,32,40]++a8.2.2++[41,58,32])+List.length a11.2.2)≤1099511627776) (nI bot (i+1)
 (PR.bnd bot (X.20 (.code (.loop (lpB PP 71 0)) ((base 71 40).on [z2,z3,(5,(.str (w++[44,32]++a3.2.2++[44,32,40]++a8.2.2++[41,58,32]++a11.2.2))),z5,z4]) (hpG (a11.1) (a11.2.1)))) (fun a14=>k (.code (.exit 0) ((base 71 40).on [z2,(1,(.int .i64 (a14.2.2.1))),(5,(.str (a14.2.2.2)))]) (hpG (a14.1) (a14.2.1)))) (fun e14=>k (qN e14))))) (fun _=>bot)))) (fun _=>bot))) else (nI bot (i+1) (PR.bnd bot
 (X.20 (.code (.loop (lpB PP 71 0)) ((base 71 40).on [z2,z3,(5,(.str z6)),z5,z4]) z7)) (fun a8=>k (.code (.exit 0) ((base 71 40).on [z2,(1,(.int .i64 (a8.2.2.1))),(5,(.str (a8.2.2.2)))]) (hpG (a8.1) (a8.2.1)))) (fun e8=>k (qN e8))))) (fun _=>bot))) (fun _=>bot))) else (PR.bnd bot z1 (fun a2=>need bot ((List.length w+List.length a2.2.2)≤1099511627776) (PR.bnd bot (X.7 (.call 20 [(.ptr 0 0 0),(.int
 .i64 3)] (hpG (a2.1) (a2.2.1)))) (fun a4=>letI z8:=(hpG (a4.1) (a4.2.1));bif decide (a4.2.2=1) then (need bot ((List.length (w++a2.2.2)+3)≤1099511627776) (PR.bnd bot (X.6 (.call 21 [(.ptr 0 0 0),(.int .i64 (d))] z8)) (fun a7=>need bot ((List.length (w++a2.2.2++[44,32,40])+List.length a7.2.2)≤1099511627776) (need bot ((List.length (w++a2.2.2++[44,32,40]++a7.2.2)+3)≤1099511627776) (PR.bnd bot (X.6
 (.call 35 [(.ptr 0 0 0),(.int .i64 (d))] (hpG (a7.1) (a7.2.1)))) (fun a10=>need bot ((List.length (w++a2.2.2++[44,32,40]++a7.2.2++[41,58,32])+List.length a10.2.2)≤1099511627776) (nI bot (i+1) (PR.bnd bot (X.20 (.code (.loop (lpB PP 71 0)) ((base 71 40).on [z2,z3,(5,(.str (w++a2.2.2++[44,32,40]++a7.2.2++[41,58,32]++a10.2.2))),z5,z4]) (hpG (a10.1) (a10.2.1)))) (fun a13=>k (.code (.exit 0) ((base 71
 40).on [z2,(1,(.int .i64 (a13.2.2.1))),(5,(.str (a13.2.2.2)))]) (hpG (a13.1) (a13.2.1)))) (fun e13=>k (qN e13))))) (fun _=>bot)))) (fun _=>bot))) else (nI bot (i+1) (PR.bnd bot (X.20 (.code (.loop (lpB PP 71 0)) ((base 71 40).on [z2,z3,(5,(.str (w++a2.2.2))),z5,z4]) z8)) (fun a7=>k (.code (.exit 0) ((base 71 40).on [z2,(1,(.int .i64 (a7.2.2.1))),(5,(.str (a7.2.2.2)))]) (hpG (a7.1) (a7.2.1))))
 (fun e7=>k (qN e7))))) (fun _=>bot))) (fun _=>bot))) else (k (.code (.exit 0) ((base 71 40).on [z2,z3,(5,(.str (w)))]) (hpG (es) (g))))):=by kernel_rfl
theorem jM1 (es:List V) (g d:Int):evN PP EP CP (qg0 X) ih bot (.call 35 [.ptr 0 0 0,.int .i64 d] (hpG es g)) k =
 (letI z1:=[102,111,114,101,97,99,104,32];letI z2:=[114,101,100,117,99,101,32];letI z3:=[32,116,104,101,110,32,46,32,101,108,105,102,32,49,32,116,104,101,110,32];letI z4:=[32,97,115,32,36];letI z5:=[32,116,104,101,110,32];letI z6:=[32,97,115,32];letI z7:=[32,40,48,59,32];letI z8:=[32,101,108,115,101,32];bif decide (d≤0) then (PR.bnd bot (X.6 (.call 34 [(.ptr 0 0 0),(.gsl 1 [(.str [46]),(.str
 [46,97]),(.str [36,120]),(.str [36,121]),(.str [102]),(.str [49]),(.str [34,115,34])] (some 7))] (hpG (es) (g)))) (fun a1=>k (.ret (.str (a1.2.2)) (hpG (a1.1) (a1.2.1)))) (fun _=>bot)) else (PR.bnd bot (X.7 (.call 20 [(.ptr 0 0 0),(.int .i64 16)] (hpG (es) (g)))) (fun a1=>letI z9:=(X.6 (.call 21 [(.ptr 0 0 0),(.int .i64 (d-1))] (hpG (a1.1) (a1.2.1))));letI z10:=(X.6 (.call 35 [(.ptr 0 0 0),(.int
 .i64 (d-1))] (hpG (a1.1) (a1.2.1))));letI z11:=(X.6 (.call 37 [(.ptr 0 0 0)] (hpG (a1.1) (a1.2.1))));bif decide (a1.2.2=0) then (nI bot (d-1) (PR.bnd bot z9 (fun a4=>need bot ((1+List.length a4.2.2)≤1099511627776) (need bot ((List.length ([91]++a4.2.2)+1)≤1099511627776) (k (.ret (.str ([91]++a4.2.2++[93])) (hpG (a4.1) (a4.2.1)))))) (fun _=>bot))) else (bif decide (a1.2.2=1) then (nI bot (d-1)
 (PR.bnd bot (X.6 (.call 71 [(.ptr 0 0 0),(.int .i64 (d-1))] (hpG (a1.1) (a1.2.1)))) (fun a5=>k (.ret (.str (a5.2.2)) (hpG (a5.1) (a5.2.1)))) (fun _=>bot))) else (bif decide (a1.2.2=2) then (nI bot (d-1) (PR.bnd bot z9 (fun a6=>need bot ((3+List.length a6.2.2)≤1099511627776) (need bot ((List.length ([105,102,32]++a6.2.2)+6)≤1099511627776) (nI bot (d-1) (PR.bnd bot (X.6 (.call 21 [(.ptr 0 0
 0),(.int .i64 (d-1))] (hpG (a6.1) (a6.2.1)))) (fun a10=>need bot ((List.length ([105,102,32]++a6.2.2++z5)+List.length a10.2.2)≤1099511627776) (need bot ((List.length ([105,102,32]++a6.2.2++z5++a10.2.2)+6)≤1099511627776) (nI bot (d-1) (PR.bnd bot (X.6 (.call 21 [(.ptr 0 0 0),(.int .i64 (d-1))] (hpG (a10.1) (a10.2.1)))) (fun a14=>need bot ((List.length
 ([105,102,32]++a6.2.2++z5++a10.2.2++z8)+List.length a14.2.2)≤1099511627776) (need bot ((List.length ([105,102,32]++a6.2.2++z5++a10.2.2++z8++a14.2.2)+4)≤1099511627776) (k (.ret (.str ([105,102,32]++a6.2.2++z5++a10.2.2++z8++a14.2.2++[32,101,110,100])) (hpG (a14.1) (a14.2.1)))))) (fun _=>bot))))) (fun _=>bot))))) (fun _=>bot))) else (bif decide (a1.2.2=3) then (nI bot (d-1) (PR.bnd bot z9 (fun
 a7=>need bot ((3+List.length a7.2.2)≤1099511627776) (need bot ((List.length ([105,102,32]++a7.2.2)+20)≤1099511627776) (nI bot (d-1) (PR.bnd bot (X.6 (.call 21 [(.ptr 0 0 0),(.int .i64 (d-1))] (hpG (a7.1) (a7.2.1)))) (fun a11=>need bot ((List.length ([105,102,32]++a7.2.2++z3)+List.length a11.2.2)≤1099511627776) (need bot ((List.length ([105,102,32]++a7.2.2++z3++a11.2.2)+4)≤1099511627776) (k (.ret
 (.str ([105,102,32]++a7.2.2++z3++a11.2.2++[32,101,110,100])) (hpG (a11.1) (a11.2.1)))))) (fun _=>bot))))) (fun _=>bot))) else (bif decide (a1.2.2=4) then (nI bot (d-1) (PR.bnd bot z10 (fun a8=>need bot ((7+List.length a8.2.2)≤1099511627776) (need bot ((List.length (z2++a8.2.2)+4)≤1099511627776) (nI bot (d-1) (PR.bnd bot (X.6 (.call 36 [(.ptr 0 0 0),(.int .i64 (d-1))] (hpG (a8.1) (a8.2.1))))
 (fun a12=>need bot ((List.length (z2++a8.2.2++z6)+List.length a12.2.2)≤1099511627776) (need bot ((List.length (z2++a8.2.2++z6++a12.2.2)+2)≤1099511627776) (nI bot (d-1) (PR.bnd bot (X.6 (.call 21 [(.ptr 0 0 0),(.int .i64 (d-1))] (hpG (a12.1) (a12.2.1)))) (fun a16=>need bot ((List.length (z2++a8.2.2++z6++a12.2.2++[32,40])+List.length a16.2.2)≤1099511627776) (need bot ((List.length
 (z2++a8.2.2++z6++a12.2.2++[32,40]++a16.2.2)+2)≤1099511627776) (nI bot (d-1) (PR.bnd bot (X.6 (.call 21 [(.ptr 0 0 0),(.int .i64 (d-1))] (hpG (a16.1) (a16.2.1)))) (fun a20=>need bot ((List.length (z2++a8.2.2++z6++a12.2.2++[32,40]++a16.2.2++[59,32])+List.length a20.2.2)≤1099511627776) (need bot ((List.length (z2++a8.2.2++z6++a12.2.2++[32,40]++a16.2.2++[59,32]++a20.2.2)+1)≤1099511627776) (k (.ret
 (.str (z2++a8.2.2++z6++a12.2.2++[32,40]++a16.2.2++[59,32]++a20.2.2++[41])) (hpG (a20.1) (a20.2.1)))))) (fun _=>bot))))) (fun _=>bot))))) (fun _=>bot))))) (fun _=>bot))) else (bif decide (a1.2.2=5) then (nI bot (d-1) (PR.bnd bot z10 (fun a9=>need bot ((8+List.length a9.2.2)≤1099511627776) (need bot ((List.length (z1++a9.2.2)+5)≤1099511627776) (PR.bnd bot (X.6 (.call 37 [(.ptr 0 0 0)] (hpG
 (a9.1) (a9.2.1)))) (fun a12=>need bot ((List.length (z1++a9.2.2++z4)+List.length a12.2.2)≤1099511627776) (need bot ((List.length (z1++a9.2.2++z4++a12.2.2)+5)≤1099511627776) (nI bot (d-1) (PR.bnd bot (X.6 (.call 21 [(.ptr 0 0 0),(.int .i64 (d-1))] (hpG (a12.1) (a12.2.1)))) (fun a16=>need bot ((List.length (z1++a9.2.2++z4++a12.2.2++z7)+List.length a16.2.2)≤1099511627776) (need bot ((List.length
 (z1++a9.2.2++z4++a12.2.2++z7++a16.2.2)+2)≤1099511627776) (nI bot (d-1) (PR.bnd bot (X.6 (.call 21 [(.ptr 0 0 0),(.int .i64 (d-1))] (hpG (a16.1) (a16.2.1)))) (fun a20=>need bot ((List.length (z1++a9.2.2++z4++a12.2.2++z7++a16.2.2++[59,32])+List.length a20.2.2)≤1099511627776) (need bot ((List.length (z1++a9.2.2++z4++a12.2.2++z7++a16.2.2++[59,32]++a20.2.2)+1)≤1099511627776) (k (.ret (.str
 (z1++a9.2.2++z4++a12.2.2++z7++a16.2.2++[59,32]++a20.2.2++[41])) (hpG (a20.1) (a20.2.1)))))) (fun _=>bot))))) (fun _=>bot))))) (fun _=>bot)))) (fun _=>bot))) else (bif decide (a1.2.2=6) then (PR.bnd bot z11 (fun a9=>nI bot (d-1) (PR.bnd bot (X.6 (.call 72 [(.ptr 0 0 0),(.int .i64 (d-1))] (hpG (a9.1) (a9.2.1)))) (fun a11=>need bot ((List.length a9.2.2+List.length a11.2.2)≤1099511627776) (k
 (.ret (.str (a9.2.2++a11.2.2)) (hpG (a11.1) (a11.2.1))))) (fun _=>bot))) (fun _=>bot)) else (bif decide (a1.2.2=7) then (nI bot (d-1) (PR.bnd bot z9 (fun a11=>need bot ((4+List.length a11.2.2)≤1099511627776) (need bot ((List.length ([34,97,92,40]++a11.2.2)+3)≤1099511627776) (k (.ret (.str ([34,97,92,40]++a11.2.2++[41,98,34])) (hpG (a11.1) (a11.2.1)))))) (fun _=>bot))) else (bif decide
 (a1.2.2=8) then (nI bot (d-1) (PR.bnd bot z10 (fun a12=>need bot ((List.length a12.2.2+1)≤1099511627776) (nI bot (d-1) (PR.bnd bot (X.6 (.call 21 [(.ptr 0 0 0),(.int .i64 (d-1))] (hpG (a12.1) (a12.2.1)))) (fun a15=>need bot ((List.length (a12.2.2++[91])+List.length a15.2.2)≤1099511627776) (need bot ((List.length (a12.2.2++[91]++a15.2.2)+1)≤1099511627776) (k (.ret (.str
 (a12.2.2++[91]++a15.2.2++[93])) (hpG (a15.1) (a15.2.1)))))) (fun _=>bot)))) (fun _=>bot))) else (bif decide (a1.2.2=9) then (nI bot (d-1) (PR.bnd bot z10 (fun a13=>PR.bnd bot (X.6 (.call 34 [(.ptr 0 0 0),(.gsl 1 [(.str [91,93]),(.str [63]),(.str [46,98]),(.str [46,34,99,34]),(.str [46,91,93]),(.str [91,49,58,93]),(.str [91,58,50,93]),(.str [91,49,58,50,93]),(.str [46,91,48,93])] (some 9))]
 (hpG (a13.1) (a13.2.1)))) (fun a14=>need bot ((List.length a13.2.2+List.length a14.2.2)≤1099511627776) (k (.ret (.str (a13.2.2++a14.2.2)) (hpG (a14.1) (a14.2.1))))) (fun _=>bot)) (fun _=>bot))) else (bif decide (a1.2.2=10) then (nI bot (d-1) (PR.bnd bot z9 (fun a14=>need bot ((1+List.length a14.2.2)≤1099511627776) (need bot ((List.length ([40]++a14.2.2)+1)≤1099511627776) (k (.ret (.str
 ([40]++a14.2.2++[41])) (hpG (a14.1) (a14.2.1)))))) (fun _=>bot))) else (bif decide (a1.2.2=11) then (PR.bnd bot z11 (fun a14=>need bot ((7+List.length a14.2.2)≤1099511627776) (k (.ret (.str ([98,114,101,97,107,32,36]++a14.2.2)) (hpG (a14.1) (a14.2.1))))) (fun _=>bot)) else (PR.bnd bot z11 (fun a14=>k (.ret (.str (a14.2.2)) (hpG (a14.1) (a14.2.1)))) (fun _=>bot)))))))))))))) (fun _=>bot))):=by kernel_rfl
theorem KV1 (es:List V):evN PP EP CP (qg0 X) ih bot (.call 10 [.osl 1 es] Heap.empty) k =
 (letI z1:=[59,32,100,101,102,32,103,40,120,41,58,32];letI z2:=[100,101,102,32,102,58,32];PR.bnd bot (X.7 (.call 20 [(.ptr 0 0 0),(.int .i64 12)] (hpG (es) 0))) (fun a0=>letI z3:=(X.6 (.call 21 [(.ptr 0 0 0),(.int .i64 5)] (hpG (a0.1) (a0.2.1))));bif decide (a0.2.2=0) then (PR.bnd bot z3 (fun a2=>need bot ((32+List.length a2.2.2)≤1099511627776) (k (.ret (.str
 ([105,109,112,111,114,116,32,34,97,47,98,34,32,97,115,32,109,59,32,105,110,99,108,117,100,101,32,34,99,34,59,32]++a2.2.2)) Heap.empty))) (fun _=>bot)) else (bif decide (a0.2.2=1) then (PR.bnd bot z3 (fun a3=>need bot ((24+List.length a3.2.2)≤1099511627776) (k (.ret (.str ([35,32,116,111,112,10,105,109,112,111,114,116,32,34,100,34,32,97,115,32,36,120,59,32]++a3.2.2)) Heap.empty))) (fun _=>bot))
 else (bif decide (a0.2.2=2) then (PR.bnd bot (X.6 (.call 21 [(.ptr 0 0 0),(.int .i64 3)] (hpG (a0.1) (a0.2.1)))) (fun a4=>need bot ((7+List.length a4.2.2)≤1099511627776) (need bot ((List.length (z2++a4.2.2)+12)≤1099511627776) (PR.bnd bot (X.6 (.call 21 [(.ptr 0 0 0),(.int .i64 3)] (hpG (a4.1) (a4.2.1)))) (fun a7=>need bot ((List.length (z2++a4.2.2++z1)+List.length a7.2.2)≤1099511627776) (need bot
 ((List.length (z2++a4.2.2++z1++a7.2.2)+1)≤1099511627776) (k (.ret (.str (z2++a4.2.2++z1++a7.2.2++[59])) Heap.empty)))) (fun _=>bot)))) (fun _=>bot)) else (PR.bnd bot z3 (fun a4=>need bot ((0+List.length a4.2.2)≤1099511627776) (k (.ret (.str ([]++a4.2.2)) Heap.empty))) (fun _=>bot))))) (fun _=>bot)):=by kernel_rfl
theorem KT1 (es:List V):evN PP EP CP (qg0 X) ih bot (.call 11 [.osl 1 es] Heap.empty) k =
 need bot (((0:Int)≤(min (↑(List.length es):Int) 60))∧((min (↑(List.length es):Int) 60)≤((↑(List.length es):Int)))) (k (.ret (.osl 1 (List.take (Int.toNat (min (↑(List.length es):Int) 60)) es)) Heap.empty)):=by kernel_rfl
theorem KW1 (es:List V):evN PP EP CP (qg0 X) ih bot (.call 12 [.osl 1 es] Heap.empty) k =
 (PR.bnd bot (X.16 (.code (.loop (lpB PP 12 0)) ((base 12 31).on [(0,(.osl 1 (es))),(3,(.gsl 1 [(.str [46]),(.str [46,97]),(.str [36,120]),(.str [102]),(.str [40]),(.str [41]),(.str [91]),(.str [93]),(.str [123]),(.str [125]),(.str [124]),(.str [44]),(.str [49]),(.str [49,46,53,101,51]),(.str [34]),(.str [92,40]),(.str [92,110]),(.str [32]),(.str [10]),(.str [35,32,110,10]),(.str
 [35,32,97,92,10]),(.str [97,110,100]),(.str [97,115]),(.str [64,106,115,111,110]),(.str [63,47,47]),(.str [47,47]),(.str [46,46]),(.str [58]),(.str [59]),(.str [61]),(.str [45]),(.str [195,169]),(.str [105,102]),(.str [97,58,58,98]),(.str [92,113]),(.str [35,92,13,10]),(.str [34])] (some 37))),(4,(.str [])),(5,(.int .i64 0))]) Heap.empty)) (fun a0=>k (.ret (.str (a0.2)) Heap.empty)) (fun e0=>k (qN
 e0))):=by kernel_rfl
theorem jO1 (es:List V) (l:List V) (c:Nat) (w:List UInt8) (i:Int):evN PP EP CP (qg0 X) ih bot (.code (.loop (lpB PP 12 0)) ((base 12 31).on [(0,.osl 1 es),(3,.gsl 1 l (some c)),(4,.str w),(5,.int .i64 i)]) Heap.empty) k =
 (letI z4:=(Int.toNat i*1);letI z1:=(gI 1 es z4 0%(↑(List.length l):Int));letI z2:=(k (.code (.exit 0) ((base 12 31).on [(0,(.osl 1 (es))),(4,(.str (w)))]) Heap.empty));letI z3:=(Int.toNat z1*1);bif decide (i<(↑(List.length es):Int)) then (bif decide (i<60) then (nX bot (i) (List.length es) (need bot (ldC PP 5 1 (es) z4) (nI bot (gI 1 es z4 0) (need bot (((0:Int)≤(gI 1 es z4
 0))∧((0:Int)<((↑(List.length l):Int)))) (nX bot z1 (List.length l) (need bot (ldC PP 9 1 (l) z3) (need bot ((List.length w+List.length (gS 1 l z3 0))≤1099511627776) (nI bot (i+1) (PR.bnd bot (X.16 (.code (.loop (lpB PP 12 0)) ((base 12 31).on [(0,(.osl 1 (es))),(3,(.gsl 1 (l) (some (c)))),(4,(.str (w++gS 1 l z3 0))),(5,(.int .i64 (i+1)))]) Heap.empty)) (fun a10=>k (.code (.exit 0) ((base 12 31).on
 [(0,(.osl 1 (a10.1))),(4,(.str (a10.2)))]) Heap.empty)) (fun e10=>k (qN e10))))))))))) else z2) else z2):=by kernel_rfl
theorem KX1 (s:List UInt8):evN PP EP CP (qg0 X) ih bot (.call 18 [.str s] Heap.empty) k =
 (letI z1:=((base 18 52).on [(0,(.str (s))),(6,(.ptr 0 0 0))]);letI z2:=(↑(List.length s):Int);bif decide (65536<z2) then (k (.ret (.tup [(.osl 2 []),(.int .i64 3),(.int .i64 0)]) Heap.empty)) else (PR.bnd bot (X.1 (.call 31 [(.str (s))] Heap.empty)) (fun a1=>bif decide (0≤a1) then (k (.ret (.tup [(.osl 2 []),(.int .i64 10),(.int .i64 (a1))]) Heap.empty)) else (bif decide (0<z2) then (PR.bnd bot
 (X.11 (.call 33 [(.agg [(.str (s)),(.int .i64 0),.nils,(.osl 1 []),(.bool false),(.int .i64 0)])] Heap.empty)) (fun a4=>letI z3:=(k (.ret (.tup [(.osl 2 []),(.int .i64 11),(.int .i64 (a4.at1))]) Heap.empty));bif a4.9 then (need bot (GndR (a4.l)) (bif a4.i then (need bot (GndR (a4.l)) (PR.bnd bot (X.17 (.code (.loop (lpB PP 18 0)) z1 (hp [.row 0 81 6 0 (some 1) [(.agg [(.str (a4.s)),(.int .i64
 (a4.at1)),(.sl 1 (a4.ver) 0 (a4.n) none),(.osl 1 (a4.o)),(.bool true),(.int .i64 (a4.e))])],.row (a4.ver) 49 2 0 none (a4.l)]))) (fun a9=>letI z4:=(k (.ret (.tup [(.osl 2 []),(.int .i64 13),(.int .i64 ((↑(List.length a9.s):Int)))]) Heap.empty));bif !decide (a9.e=0) then (k (.ret (.tup [(.osl 2 []),(.int .i64 (a9.e)),(.int .i64 (a9.at1))]) Heap.empty)) else (bif a9.i then z4 else (bif decide
 (0<(↑(List.length a9.o):Int)) then z4 else (nG bot a9.ver (a9.n) a9.l (k (.ret (.tup [(.osl 2 (a9.l)),(.int .i64 0),(.int .i64 0)]) Heap.empty)))))) (fun e9=>k (qN e9)))) else (need bot (GndR (a4.l)) (PR.bnd bot (X.17 (.code (.loop (lpB PP 18 0)) z1 (hp [.row 0 81 6 0 (some 1) [(.agg [(.str (a4.s)),(.int .i64 (a4.at1)),(.sl 1 (a4.ver) 0 (a4.n) none),(.osl 1 (a4.o)),(.bool false),(.int .i64
 (a4.e))])],.row (a4.ver) 49 2 0 none (a4.l)]))) (fun a9=>letI z5:=(k (.ret (.tup [(.osl 2 []),(.int .i64 13),(.int .i64 ((↑(List.length a9.s):Int)))]) Heap.empty));bif !decide (a9.e=0) then (k (.ret (.tup [(.osl 2 []),(.int .i64 (a9.e)),(.int .i64 (a9.at1))]) Heap.empty)) else (bif a9.i then z5 else (bif decide (0<(↑(List.length a9.o):Int)) then z5 else (nG bot a9.ver (a9.n) a9.l (k (.ret (.tup
 [(.osl 2 (a9.l)),(.int .i64 0),(.int .i64 0)]) Heap.empty)))))) (fun e9=>k (qN e9)))))) else (jn (bif decide (a4.at1<z2) then z3 else z3) (fun j1:β=>bif a4.i then (j1) else (j1)))) (fun _=>bot)) else (k (.ret (.tup [(.osl 2 []),(.int .i64 0),(.int .i64 0)]) Heap.empty)))) (fun _=>bot))):=by kernel_rfl
theorem jP1 (s s2:List UInt8) (at1:Int) (ver n:Nat) (l o:List V) (i:Bool) (e:Int):evN PP EP CP (qg0 X) ih bot (.code (.loop (lpB PP 18 0)) ((base 18 52).on [(0,.str s),(6,.ptr 0 0 0)]) (hp [.row 0 81 6 0 (some 1) [.agg [.str s2,.int .i64 at1,.sl 1 ver 0 n none,.osl 1 o,.bool i,.int .i64 e]],.row ver 49 2 0 none l])) k =
 (letI z2:=(6,(.ptr 0 0 0));letI z1:=((base 18 52).on [(0,(.str (s))),z2]);letI z3:=(hpL (ver) (l));jn (need bot (GndR (l)) (need bot (GndR (l)) (k (.code (.exit 0) z1 (hp [.row 0 81 6 0 (some 1) [(.agg [(.str (s2)),(.int .i64 (at1)),(.sl 1 (ver) 0 (n) none),(.osl 1 (o)),(.bool (i)),(.int .i64 (e))])],.row (ver) 49 2 0 none (l)]))))) (fun j1:β=>bif decide (at1<(↑(List.length s):Int)) then (bif
 decide (e=0) then (bif i then (bif i then (need bot (GndR (l)) (PR.bnd bot (X.11 (.call 32 [(.agg [(.str (s2)),(.int .i64 (at1)),(.sl 0 (ver) 0 (n) none),(.osl 1 (o)),(.bool true),(.int .i64 (e))])] z3)) (fun a5=>bif a5.9 then (need bot (GndR (a5.l)) (bif a5.i then (need bot (GndR (a5.l)) (PR.bnd bot (X.17 (.code (.loop (lpB PP 18 0)) z1 (hp [.row 0 81 6 0 (some 1) [(.agg [(.str (a5.s)),(.int .i64
 (a5.at1)),(.sl 1 (a5.ver) 0 (a5.n) none),(.osl 1 (a5.o)),(.bool true),(.int .i64 (a5.e))])],.row (a5.ver) 49 2 0 none (a5.l)]))) (fun a10=>need bot (GndR (a10.l)) (k (.code (.exit 0) ((base 18 52).on [(0,(.str (a10.s))),z2]) (hp [.row 0 81 6 0 (some 1) [(.agg [(.str (a10.s)),(.int .i64 (a10.at1)),(.sl 1 (a10.ver) 0 (a10.n) none),(.osl 1 (a10.o)),(.bool (a10.i)),(.int .i64 (a10.e))])],.row
 (a10.ver) 49 2 0 none (a10.l)])))) (fun e10=>k (qN e10)))) else (need bot (GndR (a5.l)) (PR.bnd bot (X.17 (.code (.loop (lpB PP 18 0)) z1 (hp [.row 0 81 6 0 (some 1) [(.agg [(.str (a5.s)),(.int .i64 (a5.at1)),(.sl 1 (a5.ver) 0 (a5.n) none),(.osl 1 (a5.o)),(.bool false),(.int .i64 (a5.e))])],.row (a5.ver) 49 2 0 none (a5.l)]))) (fun a10=>need bot (GndR (a10.l)) (k (.code (.exit 0) ((base 18 52).on
 [(0,(.str (a10.s))),z2]) (hp [.row 0 81 6 0 (some 1) [(.agg [(.str (a10.s)),(.int .i64 (a10.at1)),(.sl 1 (a10.ver) 0 (a10.n) none),(.osl 1 (a10.o)),(.bool (a10.i)),(.int .i64 (a10.e))])],.row (a10.ver) 49 2 0 none (a10.l)])))) (fun e10=>k (qN e10)))))) else (bot)) (fun _=>bot))) else (need bot (GndR (l)) (PR.bnd bot (X.11 (.call 32 [(.agg [(.str (s2)),(.int .i64 (at1)),(.sl 0 (ver) 0 (n)
 none),(.osl 1 (o)),(.bool false),(.int .i64 (e))])] z3)) (fun a5=>bif a5.9 then (need bot (GndR (a5.l)) (bif a5.i then (need bot (GndR (a5.l)) (PR.bnd bot (X.17 (.code (.loop (lpB PP 18 0)) z1 (hp [.row 0 81 6 0 (some 1) [(.agg [(.str (a5.s)),(.int .i64 (a5.at1)),(.sl 1 (a5.ver) 0 (a5.n) none),(.osl 1 (a5.o)),(.bool true),(.int .i64 (a5.e))])],.row (a5.ver) 49 2 0 none (a5.l)]))) (fun a10=>need
 bot (GndR (a10.l)) (k (.code (.exit 0) ((base 18 52).on [(0,(.str (a10.s))),z2]) (hp [.row 0 81 6 0 (some 1) [(.agg [(.str (a10.s)),(.int .i64 (a10.at1)),(.sl 1 (a10.ver) 0 (a10.n) none),(.osl 1 (a10.o)),(.bool (a10.i)),(.int .i64 (a10.e))])],.row (a10.ver) 49 2 0 none (a10.l)])))) (fun e10=>k (qN e10)))) else (need bot (GndR (a5.l)) (PR.bnd bot (X.17 (.code (.loop (lpB PP 18 0)) z1 (hp [.row 0 81
 6 0 (some 1) [(.agg [(.str (a5.s)),(.int .i64 (a5.at1)),(.sl 1 (a5.ver) 0 (a5.n) none),(.osl 1 (a5.o)),(.bool false),(.int .i64 (a5.e))])],.row (a5.ver) 49 2 0 none (a5.l)]))) (fun a10=>need bot (GndR (a10.l)) (k (.code (.exit 0) ((base 18 52).on [(0,(.str (a10.s))),z2]) (hp [.row 0 81 6 0 (some 1) [(.agg [(.str (a10.s)),(.int .i64 (a10.at1)),(.sl 1 (a10.ver) 0 (a10.n) none),(.osl 1
 (a10.o)),(.bool (a10.i)),(.int .i64 (a10.e))])],.row (a10.ver) 49 2 0 none (a10.l)])))) (fun e10=>k (qN e10)))))) else (bot)) (fun _=>bot)))) else (bif i then (need bot (GndR (l)) (PR.bnd bot (X.11 (.call 33 [(.agg [(.str (s2)),(.int .i64 (at1)),(.sl 0 (ver) 0 (n) none),(.osl 1 (o)),(.bool true),(.int .i64 (e))])] z3)) (fun a5=>bif a5.9 then (need bot (GndR (a5.l)) (bif a5.i then (need bot (GndR
 (a5.l)) (PR.bnd bot (X.17 (.code (.loop (lpB PP 18 0)) z1 (hp [.row 0 81 6 0 (some 1) [(.agg [(.str (a5.s)),(.int .i64 (a5.at1)),(.sl 1 (a5.ver) 0 (a5.n) none),(.osl 1 (a5.o)),(.bool true),(.int .i64 (a5.e))])],.row (a5.ver) 49 2 0 none (a5.l)]))) (fun a10=>need bot (GndR (a10.l)) (k (.code (.exit 0) ((base 18 52).on [(0,(.str (a10.s))),z2]) (hp [.row 0 81 6 0 (some 1) [(.agg [(.str (a10.s)),(.int
 .i64 (a10.at1)),(.sl 1 (a10.ver) 0 (a10.n) none),(.osl 1 (a10.o)),(.bool (a10.i)),(.int .i64 (a10.e))])],.row (a10.ver) 49 2 0 none (a10.l)])))) (fun e10=>k (qN e10)))) else (need bot (GndR (a5.l)) (PR.bnd bot (X.17 (.code (.loop (lpB PP 18 0)) z1 (hp [.row 0 81 6 0 (some 1) [(.agg [(.str (a5.s)),(.int .i64 (a5.at1)),(.sl 1 (a5.ver) 0 (a5.n) none),(.osl 1 (a5.o)),(.bool false),(.int .i64
 (a5.e))])],.row (a5.ver) 49 2 0 none (a5.l)]))) (fun a10=>need bot (GndR (a10.l)) (k (.code (.exit 0) ((base 18 52).on [(0,(.str (a10.s))),z2]) (hp [.row 0 81 6 0 (some 1) [(.agg [(.str (a10.s)),(.int .i64 (a10.at1)),(.sl 1 (a10.ver) 0 (a10.n) none),(.osl 1 (a10.o)),(.bool (a10.i)),(.int .i64 (a10.e))])],.row (a10.ver) 49 2 0 none (a10.l)])))) (fun e10=>k (qN e10)))))) else (bot)) (fun _=>bot)))
 else (need bot (GndR (l)) (PR.bnd bot (X.11 (.call 33 [(.agg [(.str (s2)),(.int .i64 (at1)),(.sl 0 (ver) 0 (n) none),(.osl 1 (o)),(.bool false),(.int .i64 (e))])] z3)) (fun a5=>bif a5.9 then (need bot (GndR (a5.l)) (bif a5.i then (need bot (GndR (a5.l)) (PR.bnd bot (X.17 (.code (.loop (lpB PP 18 0)) z1 (hp [.row 0 81 6 0 (some 1) [(.agg [(.str (a5.s)),(.int .i64 (a5.at1)),(.sl 1 (a5.ver) 0 (a5.n)
 none),(.osl 1 (a5.o)),(.bool true),(.int .i64 (a5.e))])],.row (a5.ver) 49 2 0 none (a5.l)]))) (fun a10=>need bot (GndR (a10.l)) (k (.code (.exit 0) ((base 18 52).on [(0,(.str (a10.s))),z2]) (hp [.row 0 81 6 0 (some 1) [(.agg [(.str (a10.s)),(.int .i64 (a10.at1)),(.sl 1 (a10.ver) 0 (a10.n) none),(.osl 1 (a10.o)),(.bool (a10.i)),(.int .i64 (a10.e))])],.row (a10.ver) 49 2 0 none (a10.l)])))) (fun
 e10=>k (qN e10)))) else (need bot (GndR (a5.l)) (PR.bnd bot (X.17 (.code (.loop (lpB PP 18 0)) z1 (hp [.row 0 81 6 0 (some 1) [(.agg [(.str (a5.s)),(.int .i64 (a5.at1)),(.sl 1 (a5.ver) 0 (a5.n) none),(.osl 1 (a5.o)),(.bool false),(.int .i64 (a5.e))])],.row (a5.ver) 49 2 0 none (a5.l)]))) (fun a10=>need bot (GndR (a10.l)) (k (.code (.exit 0) ((base 18 52).on [(0,(.str (a10.s))),z2]) (hp [.row 0 81
 6 0 (some 1) [(.agg [(.str (a10.s)),(.int .i64 (a10.at1)),(.sl 1 (a10.ver) 0 (a10.n) none),(.osl 1 (a10.o)),(.bool (a10.i)),(.int .i64 (a10.e))])],.row (a10.ver) 49 2 0 none (a10.l)])))) (fun e10=>k (qN e10)))))) else (bot)) (fun _=>bot))))) else (j1)) else (j1))):=by kernel_rfl
theorem KS1 (kk:Int) (w:List UInt8):evN PP EP CP (qg0 X) ih bot (.call 39 [.agg [.int .i64 kk,.str w]] Heap.empty) k =
 bif !decide (kk=1) then (bif !decide (kk=2) then (k (.ret (.bool true) Heap.empty))
 else (k (.ret (.bool false) Heap.empty)))
 else (k (.ret (.bool false) Heap.empty)):=by kernel_rfl
theorem Ky1 (es:List V):evN PP EP CP (qg0 X) ih bot (.call 22 [.osl 2 es] Heap.empty) k =
 (PR.bnd bot (X.18 (.code (.loop (lpB PP 22 0)) ((base 22 93).on [(0,(.osl 2 (es))),(4,.nils),(5,.nils),(6,(.int .i64 0)),(7,(.int .i64 0))]) Heap.empty)) (fun a0=>bif a0.2 then (bif a0.6 then (nG bot a0.v1 (a0.n1) a0.l1 (nG bot a0.v2 (a0.n2) a0.l2 (k (.ret (.tup [(.osl 1 (a0.l1)),(.osl 4 (a0.l2))]) Heap.empty)))) else (nG bot a0.v1 (a0.n1) a0.l1 (k (.ret (.tup [(.osl 1 (a0.l1)),(.osl 4 [])])
 Heap.empty)))) else (bif a0.6 then (nG bot a0.v2 (a0.n2) a0.l2 (k (.ret (.tup [(.osl 1 []),(.osl 4 (a0.l2))]) Heap.empty))) else (k (.ret (.tup [(.osl 1 []),(.osl 4 [])]) Heap.empty)))) (fun e0=>k (qN e0))):=by kernel_rfl
theorem KA1 (cs ds:List V):evN PP EP CP (qg0 X) ih bot (.call 13 [.osl 1 cs,.osl 1 ds] Heap.empty) k =
 (PR.bnd bot (X.4 (.call 11 [(.osl 1 (cs))] Heap.empty)) (fun a0=>PR.bnd bot (X.3 (.call 10 [(.osl 1 (a0))] Heap.empty)) (fun a1=>PR.bnd bot (X.8 (.call 18 [(.str (a1))] Heap.empty)) (fun a2=>PR.bnd bot (X.9 (.call 22 [(.osl 2 (a2.1))] Heap.empty)) (fun a3=>PR.bnd bot (X.3 (.call 12 [(.osl 1 (ds))] Heap.empty)) (fun a4=>PR.bnd bot (X.8 (.call 18 [(.str (a4))] Heap.empty)) (fun a5=>PR.bnd bot (X.9
 (.call 22 [(.osl 2 (a5.1))] Heap.empty)) (fun a6=>PR.bnd bot (X.19 (.code (.loop (lpB PP 13 0)) ((base 13 98).on [(1,(.osl 1 (ds))),(9,(.osl 4 (a3.2))),(14,(.osl 4 (a6.2))),(15,.nils),(16,(.int .i64 0))]) Heap.empty)) (fun a7=>bif a7.1 then (nG bot a7.2.1 (a7.2.2.1) a7.2.2.2.1 (k (.ret (.osl 4 (a7.2.2.2.1)) Heap.empty))) else (k (.ret (.osl 4 []) Heap.empty))) (fun e7=>k (qN e7))) (fun _=>bot))
 (fun _=>bot)) (fun _=>bot)) (fun _=>bot)) (fun _=>bot)) (fun _=>bot)) (fun _=>bot)):=by kernel_rfl
theorem Kw1 (cs ds ms:List V):evN PP EP CP (qg0 X) ih bot (.call 5 [.osl 1 cs,.osl 1 ds,.osl 1 ms] Heap.empty) k =
 (letI z1:=(k (.ret (.bool false) Heap.empty));letI z2:=(k (.ret (.bool true) Heap.empty));bif decide (200<(↑(List.length ds):Int)) then z2 else (PR.bnd bot (X.21 (.call 13 [(.osl 1 (cs)),(.osl 1 (ds))] Heap.empty)) (fun a1=>letI z3:=(↑(List.length a1):Int);PR.bnd bot (X.10 (.call 14 [(.osl 4 (a1))] Heap.empty)) (fun a2=>letI z8:=(Int.toNat (a2.2.2+1));letI z4:=(List.take z8 a1);letI z5:=(X.10
 (.call 14 [(.osl 4 (List.take (Int.toNat a2.2.2) a1))] Heap.empty));letI z6:=(((0:Int)≤(a2.2.2))∧((a2.2.2)≤(z3)));letI z7:=(List.length z4);bif !decide (a2.2.1=22) then z2 else (bif decide (z3≤a2.2.2) then z2 else (PR.bnd bot (X.21 (.call 13 [(.osl 1 (ms)),(.osl 1 [])] Heap.empty)) (fun a5=>letI z9:=(List.length z4+List.length a5);letI z10:=(List.take z8 a1++a5);letI z11:=(List.length a5);nI bot
 (a2.2.2+1) (need bot (((0:Int)≤(a2.2.2+1))∧((a2.2.2+1)≤(z3))) (bif qn0 z4 then (bif qn0 a5 then (PR.bnd bot (X.10 (.call 14 [(.osl 4 [])] Heap.empty)) (fun a10=>need bot z6 (PR.bnd bot z5 (fun a12=>jn (bif decide (a12.2.1=0) then z2 else (bif decide (a12.2.1=22) then (bif decide (a12.2.2=a2.2.2) then z2 else z1) else z1)) (fun j2:β=>jn (bif decide (a10.2.1=21) then (j2) else z1) (fun j1:β=>bif
 decide (a10.2.1=22) then (bif decide (a10.2.2=a2.2.2) then (j2) else (j1)) else (j1)))) (fun _=>bot))) (fun _=>bot)) else (need bot ((a5≠[])∧((z11≤1099511627776)∧((List.length a5*56)≤1099511627776))) (need bot ((0=0)∧((0=0)∧((z11=z11)∧(GndR (a5))))) (PR.bnd bot (X.10 (.call 14 [(.osl 4 (a5))] Heap.empty)) (fun a12=>need bot z6 (PR.bnd bot z5 (fun a14=>jn (bif decide (a14.2.1=0) then z2 else
 (bif decide (a14.2.1=22) then (bif decide (a14.2.2=a2.2.2) then z2 else z1) else z1)) (fun j4:β=>jn (bif decide (a12.2.1=21) then (j4) else z1) (fun j3:β=>bif decide (a12.2.1=22) then (bif decide (a12.2.2=a2.2.2) then (j4) else (j3)) else (j3)))) (fun _=>bot))) (fun _=>bot))))) else (need bot ((List.take (Int.toNat (a2.2.2+(1:Int))) a1≠[])∧((z7≤1099511627776)∧((List.length
 z4*56)≤1099511627776))) (bif qn0 a5 then (need bot ((0=0)∧((0=0)∧((z7=z7)∧(GndR z4)))) (PR.bnd bot (X.10 (.call 14 [(.osl 4 z4)] Heap.empty)) (fun a12=>need bot z6 (PR.bnd bot z5 (fun a14=>jn (bif decide (a14.2.1=0) then z2 else (bif decide (a14.2.1=22) then (bif decide (a14.2.2=a2.2.2) then z2 else z1) else z1)) (fun j6:β=>jn (bif decide (a12.2.1=21) then (j6) else z1) (fun j5:β=>bif decide
 (a12.2.1=22) then (bif decide (a12.2.2=a2.2.2) then (j6) else (j5)) else (j5)))) (fun _=>bot))) (fun _=>bot))) else (need bot ((0=0)∧((a5≠[])∧((z7=z7)∧((0≤z7)∧((z9≤1099511627776)∧((z9*56)≤1099511627776)))))) (need bot ((1=1)∧((0=0)∧((z9=(List.length z10))∧(GndR z10)))) (PR.bnd bot (X.10 (.call 14 [(.osl 4 z10)] Heap.empty)) (fun a13=>need bot z6 (PR.bnd bot z5 (fun a15=>jn (bif decide
 (a15.2.1=0) then z2 else (bif decide (a15.2.1=22) then (bif decide (a15.2.2=a2.2.2) then z2 else z1) else z1)) (fun j8:β=>jn (bif decide (a13.2.1=21) then (j8) else z1) (fun j7:β=>bif decide (a13.2.1=22) then (bif decide (a13.2.2=a2.2.2) then (j8) else (j7)) else (j7)))) (fun _=>bot))) (fun _=>bot))))))))) (fun _=>bot)))) (fun _=>bot)) (fun _=>bot))):=by kernel_rfl
end
end Go.AM
