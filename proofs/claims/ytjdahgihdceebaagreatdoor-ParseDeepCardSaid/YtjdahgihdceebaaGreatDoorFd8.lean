/-
  WHAT FUNCTIONS OF THE PROGRAM COME TO, told by the machine, and plain laws of it. No condition but what each theorem says of its arguments.
-/
import Derived.Test.YtjdahgihdceebaaGreatDoorFd7
namespace Go.AM
open Go.Proofs
set_option maxRecDepth 100000
set_option maxHeartbeats 4000000
theorem YJ1 {len:Nat} {acc:List V} (h:len=acc.length) (ha:acc=[]):decide ((0:Int)<(len:Int))=false:=by subst ha;subst h;rfl
theorem YI1 {len:Nat} {acc:List V} (h:len=acc.length) (ha:acc≠[]):decide ((0:Int)<(len:Int))=true:=by
 subst h
 cases acc with
 | nil=>exact absurd rfl ha
 | cons a b=>exact decide_eq_true (by rw [List.length_cons];omega)
theorem JP0 {len:Nat} {acc:List V} (h:len=acc.length) (ha:acc≠[]):decide ((len:Int)=0)=false:=by
 subst h
 cases acc with
 | nil=>exact absurd rfl ha
 | cons a b=>exact decide_eq_false (by rw [List.length_cons];omega)
theorem nn {A B d:Prop} [Decidable d] {m0 z:PR (Nd×Int) Int} (h0:decide d=false) (hA:A) (hB:B):(bif decide d then m0 else need .no A (need .no B z))=z:=by
 rw [h0,cond_false,qR0 hA,qR0 hB]
section fns9
variable {es:List V} {l:List (Int×List UInt8)} {n m p:Nat} (I:Items es l) (X:T3 es l n) (hL:∀ {m},12*n+wid l+12≤m→∀ v len acc p,p≤l.length→len=acc.length→len≤2*p+2→GndR acc→∀ r,qb0 l n (.progL acc) p=some r→ER r ((MF m).progL es v len acc (p:Nat))) (hm:12*n+wid l+23≤m) (hp:p≤l.length)
 include I X hL hm hp
theorem QT2:Sim (qb0 l n) l EN (Pg.body .program) p (Qv0 .no .ok .er (MF m) es p):=by
 have U:=X.toT2
 have T:=U.toT1
 have hs:=I.small
 simp only [Pg.body]
 unfold Qv0
 refine Sim.inl ?_
 simp only [Pg.body,Pg.call1,Pg.bind,Jo1,jg0,List.nil_append]
 refine Sim.is I (by omega) (fun b _=>?_)
 cases b <;> dsimp only [cond_true,cond_false,Pg.bind]
 ·refine Sim.is I (by omega) (fun b _=>?_)
  cases b <;> dsimp only [cond_true,cond_false,Pg.bind]
  ·refine Sim.has I (by omega) (fun _=>?_) (fun _=>?_) <;> dsimp only [cond_true,cond_false]
   ·refine Sim.call (qd0 _ _) (by omega) (T.dfn (by omega) true _ (by omega)) (fun a q h1 h2=>?_) (fun _=>qh0)
    exact Sim.finish I h2 (fun _=>rfl) (fun h=>absurd rfl h)
   ·refine Sim.call (qd0 _ _) (by omega) (T.pipe (by omega) _ (by omega)) (fun a q h1 h2=>?_) (fun _=>qh0)
    exact Sim.finish I h2 (fun _=>rfl) (fun h=>absurd rfl h)
  ·refine Sim.callQ (qd0 _ _) (Kr0 l n p) hp (T.bring (by omega) p hp) (fun a q h1 h2=>?_) (fun _=>qh0)
   dsimp only [Pg.bind]
   refine Sim.need ⟨List.cons_ne_nil _ _,by omega,by omega⟩ ?_
   refine Sim.need (qQ0 qI0) ?_
   refine Sim.callR (qd0 _ _) h2 (hL (by omega) 0 1 _ q h2 rfl (by omega) (qQ0 qI0)) (fun k t acc v q' h3 h4 hg hb=>?_) (fun _ _=>qh0)
   dsimp only [Pg.bind]
   cases acc with
   | nil =>
    rw [YJ1 (acc:=[]) rfl rfl]
    dsimp only [cond_false]
    refine Sim.has I (by omega) (fun _=>?_) (fun _=>?_) <;> dsimp only [cond_true,cond_false]
    ·refine Sim.call (qd0 _ _) (by omega) (T.dfn (by omega) true _ (by omega)) (fun a q h5 h6=>?_) (fun _=>qh0)
     exact Sim.finish I h6 (fun _=>rfl) (fun h=>absurd rfl h)
    ·refine Sim.call (qd0 _ _) (by omega) (T.pipe (by omega) _ (by omega)) (fun a q h5 h6=>?_) (fun _=>qh0)
     exact Sim.finish I h6 (fun _=>rfl) (fun h=>absurd rfl h)
   | cons a1 b1 =>
    have ha:a1::b1≠[]:=List.cons_ne_nil a1 b1
    rw [YI1 (acc:=a1::b1) rfl ha]
    dsimp only [cond_true]
    generalize a1::b1=acc at *
    refine Sim.atEnd I h4 (fun hq=>?_) (fun hq=>?_)
    ·rw [decide_eq_false (show ¬ ((q':Nat):Int)<(es.length:Int) by rw [I.len];omega),cond_false]
     rw [nn (JP0 rfl ha) ⟨by trivial,by first | trivial | exact List.cons_ne_nil _ _,by trivial,by first | trivial | exact Nat.zero_le _,by simp only [List.length_cons,List.length_nil];omega,by simp only [List.length_cons,List.length_nil];omega⟩ ⟨by trivial,by trivial,by first | trivial | exact List.length_append.symm,zG0 hg (jl0 qI0)⟩]
     exact Sim.ret qq0
    ·refine Sim.has I (by omega) (fun _=>?_) (fun _=>?_) <;> dsimp only [cond_true,cond_false]
     ·refine Sim.call (qd0 _ _) (by omega) (T.dfn (by omega) true _ (by omega)) (fun a q h5 h6=>?_) (fun _=>qh0)
      exact Sim.finish I h6 (fun h=>absurd h ha) (fun _=>nn (JP0 rfl ha) ⟨by trivial,by first | trivial | exact List.cons_ne_nil _ _,by trivial,by first | trivial | exact Nat.zero_le _,by simp only [List.length_cons,List.length_nil];omega,by simp only [List.length_cons,List.length_nil];omega⟩ ⟨by trivial,by trivial,by first | trivial | exact List.length_append.symm,zG0 hg (qQ0 qI0)⟩)
     ·refine Sim.call (qd0 _ _) (by omega) (T.pipe (by omega) _ (by omega)) (fun a q h5 h6=>?_) (fun _=>qh0)
      exact Sim.finish I h6 (fun h=>absurd h ha) (fun _=>nn (JP0 rfl ha) ⟨by trivial,by first | trivial | exact List.cons_ne_nil _ _,by trivial,by first | trivial | exact Nat.zero_le _,by simp only [List.length_cons,List.length_nil];omega,by simp only [List.length_cons,List.length_nil];omega⟩ ⟨by trivial,by trivial,by first | trivial | exact List.length_append.symm,zG0 hg (qQ0 qI0)⟩)
 ·refine Sim.callQ (qd0 _ _) (Kr0 l n p) hp (T.bring (by omega) p hp) (fun a q h1 h2=>?_) (fun _=>qh0)
  dsimp only [Pg.bind]
  refine Sim.need ⟨List.cons_ne_nil _ _,by omega,by omega⟩ ?_
  refine Sim.need (qQ0 qI0) ?_
  refine Sim.callR (qd0 _ _) h2 (hL (by omega) 0 1 _ q h2 rfl (by omega) (qQ0 qI0)) (fun k t acc v q' h3 h4 hg hb=>?_) (fun _ _=>qh0)
  dsimp only [Pg.bind]
  cases acc with
  | nil =>
   rw [YJ1 (acc:=[]) rfl rfl]
   dsimp only [cond_false]
   refine Sim.has I (by omega) (fun _=>?_) (fun _=>?_) <;> dsimp only [cond_true,cond_false]
   ·refine Sim.call (qd0 _ _) (by omega) (T.dfn (by omega) true _ (by omega)) (fun a q h5 h6=>?_) (fun _=>qh0)
    exact Sim.finish I h6 (fun _=>rfl) (fun h=>absurd rfl h)
   ·refine Sim.call (qd0 _ _) (by omega) (T.pipe (by omega) _ (by omega)) (fun a q h5 h6=>?_) (fun _=>qh0)
    exact Sim.finish I h6 (fun _=>rfl) (fun h=>absurd rfl h)
  | cons a1 b1 =>
   have ha:a1::b1≠[]:=List.cons_ne_nil a1 b1
   rw [YI1 (acc:=a1::b1) rfl ha]
   dsimp only [cond_true]
   generalize a1::b1=acc at *
   refine Sim.atEnd I h4 (fun hq=>?_) (fun hq=>?_)
   ·rw [decide_eq_false (show ¬ ((q':Nat):Int)<(es.length:Int) by rw [I.len];omega),cond_false]
    rw [nn (JP0 rfl ha) ⟨by trivial,by first | trivial | exact List.cons_ne_nil _ _,by trivial,by first | trivial | exact Nat.zero_le _,by simp only [List.length_cons,List.length_nil];omega,by simp only [List.length_cons,List.length_nil];omega⟩ ⟨by trivial,by trivial,by first | trivial | exact List.length_append.symm,zG0 hg (jl0 qI0)⟩]
    exact Sim.ret qq0
   ·refine Sim.has I (by omega) (fun _=>?_) (fun _=>?_) <;> dsimp only [cond_true,cond_false]
    ·refine Sim.call (qd0 _ _) (by omega) (T.dfn (by omega) true _ (by omega)) (fun a q h5 h6=>?_) (fun _=>qh0)
     exact Sim.finish I h6 (fun h=>absurd h ha) (fun _=>nn (JP0 rfl ha) ⟨by trivial,by first | trivial | exact List.cons_ne_nil _ _,by trivial,by first | trivial | exact Nat.zero_le _,by simp only [List.length_cons,List.length_nil];omega,by simp only [List.length_cons,List.length_nil];omega⟩ ⟨by trivial,by trivial,by first | trivial | exact List.length_append.symm,zG0 hg (qQ0 qI0)⟩)
    ·refine Sim.call (qd0 _ _) (by omega) (T.pipe (by omega) _ (by omega)) (fun a q h5 h6=>?_) (fun _=>qh0)
     exact Sim.finish I h6 (fun h=>absurd h ha) (fun _=>nn (JP0 rfl ha) ⟨by trivial,by first | trivial | exact List.cons_ne_nil _ _,by trivial,by first | trivial | exact Nat.zero_le _,by simp only [List.length_cons,List.length_nil];omega,by simp only [List.length_cons,List.length_nil];omega⟩ ⟨by trivial,by trivial,by first | trivial | exact List.length_append.symm,zG0 hg (qQ0 qI0)⟩)
end fns9
/-- THE PROGRAM'S Plain IS Jh0. -/
theorem ja1 {w:List UInt8} {n:Nat} (h:n<w.length):qO0 w (n:Int)=(w[n].toNat:Int):=by
 have h2:Int.toNat (n:Int)=n:=Int.toNat_natCast n
 unfold qO0
 rw [h2,List.getD_eq_getElem?_getD,List.getElem?_eq_getElem h]
 rfl
theorem qo1 {f:UInt8→Bool} (c:UInt8):Zo0 f (c.toNat:Int)=.ok (f c):=by
 have h:c.toNat<256:=UInt8.toNat_lt c
 unfold Zo0
 rw [decide_eq_true (show (0:Int)≤(c.toNat:Int) by omega),decide_eq_true (show (c.toNat:Int)<256 by omega)]
 have e:Int.toNat (c.toNat:Int)=c.toNat:=Int.toNat_natCast _
 rw [e,UInt8.ofNat_toNat]
 rfl
theorem QW1 {m:Nat} (hm:1≤m) (c:UInt8):(MF m).letter (c.toNat:Int)=.ok (zt0 c):=by
 obtain ⟨m,rfl⟩:∃ k,m=k+1:=⟨m-1,by omega⟩
 exact qo1 c
theorem qH2 {m:Nat} (hm:1≤m) (c:UInt8):(MF m).digit (c.toNat:Int)=.ok (yB0 c):=by
 obtain ⟨m,rfl⟩:∃ k,m=k+1:=⟨m-1,by omega⟩
 exact qo1 c
theorem m_part {m:Nat} (hm:2≤m) (c:UInt8):(MF m).part (c.toNat:Int)=.ok (yC0 c):=by
 obtain ⟨m,rfl⟩:∃ k,m=k+1:=⟨m-1,by omega⟩
 change Qn0 PR.no PR.ok PR.er (MF m) _=_
 unfold Qn0
 rw [QW1 (by omega),qH2 (by omega)]
 change (bif zt0 c then PR.ok true else bif yB0 c then PR.ok true else PR.ok false)=PR.ok (zt0 c||yB0 c)
 cases zt0 c <;> cases yB0 c <;> rfl
def yW0 (w:List UInt8):Nat:=(w.takeWhile yC0).length
theorem m_runL (w:List UInt8) (hw:w.length≤9223372036854775807):∀ (d m n:Nat),n≤w.length→w.length-n≤d→d+4≤m→(MF m).runL w (n:Nat)=.ok (((n+yW0 (w.drop n):Nat)):Int):=by
 intro d
 induction d with
 | zero =>
  intro m n hn hd hm
  obtain ⟨m,rfl⟩:∃ k,m=k+1:=⟨m-1,by omega⟩
  change yN0 PR.no PR.ok PR.er (MF m) w n=_
  unfold yN0
  rw [decide_eq_false (by omega),cond_false,List.drop_eq_nil_of_le (by omega)]
  rfl
 | succ d IH =>
  intro m n hn hd hm
  obtain ⟨m,rfl⟩:∃ k,m=k+1:=⟨m-1,by omega⟩
  change yN0 PR.no PR.ok PR.er (MF m) w n=_
  unfold yN0
  rcases Nat.lt_or_ge n w.length with h | h
  ·rw [decide_eq_true (by omega),cond_true,qR0 ⟨by omega,by omega⟩,ja1 h,m_part (by omega),List.drop_eq_getElem_cons h]
   dsimp only [PR.bnd,yW0]
   rw [List.takeWhile_cons]
   cases hp:yC0 w[n] with
   | true =>
    rw [cond_true,qR0 ⟨by omega,by omega⟩]
    have h1:=IH m (n+1) (by omega) (by omega) (by omega)
    change (MF m).runL w ((n:Int)+1)=_ at h1
    rw [h1]
    dsimp only [PR.bnd,yW0]
    rw [if_pos rfl,List.length_cons,Nat.add_right_comm,Nat.add_assoc]
   | false =>
    rw [cond_false,if_neg (by decide)]
    rfl
  ·rw [decide_eq_false (by omega),cond_false,List.drop_eq_nil_of_le (by omega)]
   rfl
theorem m_runW (w:List UInt8) (hw:w.length≤9223372036854775807) {m:Nat} (hm:w.length+5≤m):(MF m).runW w=.ok ((yW0 w:Nat):Int):=by
 obtain ⟨m,rfl⟩:∃ k,m=k+1:=⟨m-1,by omega⟩
 change QB0 PR.no PR.ok PR.er (MF m) w=_
 unfold QB0
 have h:=m_runL w hw w.length m 0 (by omega) (by omega) (by omega)
 change (MF m).runL w 0=_ at h
 rw [h,Nat.zero_add,List.drop_zero]
 rfl
def ja0 (w:List UInt8):Nat:=match w with
 | []=>0
 | c::_=>bif zt0 c then yW0 w else 0
theorem QY1 (w:List UInt8) (hw:w.length≤9223372036854775807) {m:Nat} (hm:w.length+6≤m):(MF m).simple w=.ok ((ja0 w:Nat):Int):=by
 obtain ⟨m,rfl⟩:∃ k,m=k+1:=⟨m-1,by omega⟩
 change QD0 PR.no PR.ok PR.er (MF m) w=_
 unfold QD0
 rw [m_runW w hw (by omega)]
 cases w with
 | nil=>rfl
 | cons c w =>
  have hb:qO0 (c::w) 0=(c.toNat:Int):=ja1 (w:=c::w) (n:=0) (by rw [List.length_cons];omega)
  rw [decide_eq_false (by intro h;cases h),cond_false,qR0 ⟨by omega,by rw [List.length_cons];omega⟩,hb,QW1 (by omega)]
  dsimp only [PR.bnd,ja0]
  cases zt0 c <;> rfl
theorem qn2 (w:List UInt8):decide (((yW0 w:Nat):Int)=(w.length:Int))=w.all yC0:=by
 induction w with
 | nil=>rfl
 | cons c w IH =>
  unfold yW0 at IH ⊢
  rw [List.takeWhile_cons,List.all_cons]
  cases hp:yC0 c with
  | true =>
   rw [Bool.true_and,← IH,if_pos rfl,List.length_cons,List.length_cons]
   apply decide_eq_decide.2
   omega
  | false =>
   rw [Bool.false_and,if_neg (by decide),List.length_nil,List.length_cons]
   exact decide_eq_false (by omega)
theorem jY2 (c:UInt8) (w:List UInt8):decide (((ja0 (c::w):Nat):Int)=((c::w).length:Int))=(zt0 c&&(c::w).all yC0):=by
 have h:=qn2 (c::w)
 rcases hc:zt0 c with _ | _
 ·have e:ja0 (c::w)=0:=by unfold ja0;dsimp only;rw [hc];rfl
  rw [e,Bool.false_and,List.length_cons]
  exact decide_eq_false (by omega)
 ·have e:ja0 (c::w)=yW0 (c::w):=by unfold ja0;dsimp only;rw [hc];rfl
  rw [e,Bool.true_and]
  exact h
theorem ZC1:JS0:=by
 intro m w hw hm
 obtain ⟨m,rfl⟩:∃ k,m=k+1:=⟨m-1,by omega⟩
 change Qr0 PR.no PR.ok PR.er (MF m) w=_
 unfold Qr0
 rw [QY1 w hw (by omega),QZ1 (by omega)]
 cases w with
 | nil=>rfl
 | cons c w =>
  rw [decide_eq_false (by intro h;cases h),Bool.not_false,cond_true]
  dsimp only [PR.bnd]
  rw [jY2 c w]
  change _=PR.ok (zt0 c&&(c::w).all yC0&&!Jg0 (c::w))
  cases (zt0 c&&(c::w).all yC0) <;> cases Jg0 (c::w) <;> rfl
/-- WHERE A RUN LOOKS, and that it ends. -/
def nc:NT→Bool
 | .rows one _ _=>nc one
 | .exp _ | .operand | .post | .term | .text | .textF _ | .plain | .bring | .dfn _ | .within _ _ | .param | .key | .pair | .value | .unit | .keyPat | .pattern | .callw | .paren | .ifsL _ | .ifs | .reduce | .each | .array | .object=>true
 | _=>false
def Gt (rec:NT→Nat→Option (PR (Nd×Nat) Nat)) (l:List (Int×List UInt8)) (pg:Pg) (p p0:Nat):Prop:=∀ a,qt0 rec l pg p=some (.ok a)→p0<a.2
section gt
variable {rec:NT→Nat→Option (PR (Nd×Nat) Nat)} {l:List (Int×List UInt8)} {p:Nat} (hr:je0 rec l)
theorem Gt.err {p0:Nat}:Gt rec l .err p p0:=fun a h=>by cases h
theorem Gt.look {f:Option (Int×List UInt8)→Pg} {p0:Nat} (h:Gt rec l (f l[p]?) p p0):Gt rec l (.look f) p p0:=h
theorem Gt.cond {b:Bool} {x y:Pg} {p0:Nat} (h:Gt rec l x p p0) (h':Gt rec l y p p0):Gt rec l (bif b then x else y) p p0:=by
 cases b
 ·exact h'
 ·exact h
 include hr
theorem Gt.adv {k:Pg}:Gt rec l (.adv k) p p:=fun a h=>by
 unfold qt0 at h
 by_cases hl:p<l.length
 ·rw [if_pos hl] at h
  exact (GG0 hr k (p+1) _ h (by omega)).1
 ·rw [if_neg hl] at h;cases h
theorem Gt.call {x:NT} {f:Nd→Pg} (hp:p≤l.length) (hx:∀ a,rec x p=some (.ok a)→p<a.2):Gt rec l (.call x f) p p:=fun a h=>by
 unfold qt0 at h
 cases hq:rec x p with
 | none=>rw [hq] at h;cases h
 | some q =>
  rw [hq] at h
  cases q with
  | ok b=>exact Nat.lt_of_lt_of_le (hx b hq) (GG0 hr (f b.1) b.2 _ h (hr x p _ hq hp).2).1
  | er e=>cases h
  | no=>cases h
theorem Gt.has {s:List UInt8} {x y:Pg} (h:Gt rec l y p p):Gt rec l (Pg.has s x y) p p:=Gt.look (Gt.cond (Gt.adv hr) h)
theorem Gt.need {s:List UInt8} {x:Pg}:Gt rec l (Pg.need s x) p p:=Gt.look (Gt.cond (Gt.adv hr) Gt.err)
theorem Gt.take {c:Int} {f:List UInt8→Pg}:Gt rec l (Pg.take c f) p p:=by
 refine Gt.look ?_
 cases l[p]? with
 | none=>exact Gt.err
 | some t=>exact Gt.cond (Gt.adv hr) Gt.err
theorem Gt.name {f:List UInt8→Pg}:Gt rec l (Pg.name f) p p:=by
 refine Gt.look ?_
 cases l[p]? with
 | none=>exact Gt.err
 | some t=>exact Gt.cond (Gt.adv hr) Gt.err
end gt
theorem Xa1 (l:List (Int×List UInt8)) (n:Nat):∀ x p,nc x=true→p≤l.length→∀ a,qb0 l n x p=some (.ok a)→p<a.2:=by
 induction n with
 | zero=>intro x p _ _ a h;cases h
 | succ n IH =>
  intro x p hx hp
  have hr:=qd0 l n
  change Gt (qb0 l n) l (Pg.body x) p p
  have C:∀ {y f},nc y=true→Gt (qb0 l n) l (.call y f) p p:=fun hy=>Gt.call hr hp (IH _ p hy hp)
  have W:∀ w no,Gt (qb0 l n) l no p p→Gt (qb0 l n) l (Pg.byWord w no) p p:=fun w no h=>Gt.cond (Gt.adv hr) (Gt.cond (Gt.adv hr) (Gt.cond (Gt.adv hr) (Gt.cond (Gt.adv hr) (Gt.cond (Gt.adv hr) (Gt.cond (Gt.adv hr) (Gt.cond (Gt.adv hr) (Gt.cond (Gt.adv hr) (Gt.cond (Gt.adv hr) h))))))))
  cases x with
  | exp _=>exact C rfl
  | operand=>exact Gt.has hr (Gt.has hr (Gt.has hr (Gt.has hr (C rfl))))
  | post=>exact C rfl
  | term =>
   refine Gt.look ?_
   cases l[p]? with
   | none=>exact Gt.err
   | some t=>exact Gt.cond (Gt.adv hr) (Gt.cond (Gt.adv hr) (Gt.cond (Gt.adv hr) (Gt.cond (C rfl) (Gt.cond (Gt.adv hr) (Gt.cond (W _ _ (Gt.cond Gt.err (C rfl))) (Gt.cond (W _ _ Gt.err) Gt.err))))))
  | text=>exact Gt.look (Gt.cond (Gt.take hr) (Gt.take hr))
  | textF _=>exact Gt.take hr
  | plain=>exact Gt.take hr
  | bring=>exact Gt.take hr
  | dfn _=>exact Gt.name hr
  | within _ _=>exact Gt.need hr
  | param=>exact Gt.look (Gt.cond (Gt.take hr) (Gt.name hr))
  | key=>exact Gt.look (Gt.cond (Gt.take hr) (Gt.cond (Gt.take hr) (Gt.cond (C rfl) (Gt.need hr))))
  | pair=>exact C rfl
  | value=>exact C rfl
  | unit=>exact Gt.has hr (C rfl)
  | keyPat=>exact C rfl
  | pattern=>exact Gt.look (Gt.cond (Gt.take hr) (Gt.has hr (Gt.need hr)))
  | callw=>exact Gt.take hr
  | paren=>exact C rfl
  | ifsL _=>exact C rfl
  | ifs=>exact C rfl
  | reduce=>exact C rfl
  | each=>exact C rfl
  | array=>exact Gt.has hr (C rfl)
  | object=>exact Gt.has hr (C rfl)
  | rows one _ _=>exact C hx
  | expL _ _ _=>cases hx
  | root=>cases hx
  | postL _=>cases hx
  | rest _=>cases hx
  | rowsL _ _ _ _=>cases hx
  | textL _=>cases hx
  | plainL _=>cases hx
  | progL _=>cases hx
  | program=>cases hx
/-- EVERY RUN ENDS. -/
theorem JF0 {l:List (Int×List UInt8)} {n m:Nat} (h:n≤m) {x:NT} {p:Nat} {r:PR (Nd×Nat) Nat} (hr:qb0 l n x p=some r):qb0 l m x p=some r:=by
 induction h with
 | refl=>exact hr
 | step _ IH=>exact ZU1 l _ x p r IH
def EndsG (l:List (Int×List UInt8)) (x:NT) (p:Nat):Prop:=∃ n r,qb0 l n x p=some r
def ExP (l:List (Int×List UInt8)) (pg:Pg) (p:Nat):Prop:=∃ n r,qt0 (qb0 l n) l pg p=some r
section ex
variable {l:List (Int×List UInt8)} {p:Nat}
theorem EndsG.of {x:NT} (h:ExP l (Pg.body x) p):EndsG l x p:=let ⟨n,r,h⟩:=h;⟨n+1,r,h⟩
theorem ExP.ret {n:Nd}:ExP l (.ret n) p:=⟨0,_,rfl⟩
theorem ExP.err:ExP l .err p:=⟨0,_,rfl⟩
theorem ExP.look {f:Option (Int×List UInt8)→Pg} (h:ExP l (f l[p]?) p):ExP l (.look f) p:=h
theorem ExP.adv {k:Pg} (hp:p<l.length) (h:ExP l k (p+1)):ExP l (.adv k) p:=by
 obtain ⟨n,r,h⟩:=h
 refine ⟨n,r,?_⟩
 unfold qt0
 rw [if_pos hp]
 exact h
theorem ExP.call {x:NT} {f:Nd→Pg} (hp:p≤l.length) (hx:EndsG l x p) (hf:∀ a q,(nc x=true→p<q)→p≤q→q≤l.length→ExP l (f a) q):ExP l (.call x f) p:=by
 obtain ⟨n,r,h⟩:=hx
 have hpos:=qd0 l n x p r h hp
 cases r with
 | ok a =>
  obtain ⟨m,s,h2⟩:=hf a.1 a.2 (fun hc=>Xa1 l n x p hc hp a h) hpos.1 hpos.2
  refine ⟨max n m,s,?_⟩
  unfold qt0
  rw [JF0 (Nat.le_max_left n m) h]
  exact GF0 (fun _ _ _ hh=>JF0 (Nat.le_max_right n m) hh) _ _ _ h2
 | er e =>
  refine ⟨n,.er e,?_⟩
  unfold qt0
  rw [h]
 | no=>exact hpos.elim
theorem ExP.cond {b:Bool} {x y:Pg} (h:b=true→ExP l x p) (h':b=false→ExP l y p):ExP l (bif b then x else y) p:=by
 cases b with
 | true=>exact h rfl
 | false=>exact h' rfl
theorem ExP.is {s:List UInt8} {f:Bool→Pg} (h:∀ b,(b=true→p<l.length)→ExP l (f b) p):ExP l (Pg.is s f) p:=h (isB s l[p]?) Qy1
theorem ExP.has {s:List UInt8} {a b:Pg} (h:p<l.length→ExP l a (p+1)) (h':ExP l b p):ExP l (Pg.has s a b) p:=by
 refine ExP.is fun b hb=>?_
 cases b with
 | true=>exact ExP.adv (hb rfl) (h (hb rfl))
 | false=>exact h'
theorem JL0 {t:Int×List UInt8} (h:l[p]?=some t):p<l.length:=by
 rcases Nat.lt_or_ge p l.length with h1 | h1
 ·exact h1
 ·rw [List.getElem?_eq_none h1] at h;cases h
theorem ExP.take {c:Int} {f:List UInt8→Pg} (h:∀ w,l[p]?=some (c,w)→p<l.length→ExP l (f w) (p+1)):ExP l (Pg.take c f) p:=by
 refine ExP.look ?_
 cases ht:l[p]? with
 | none=>exact ExP.err
 | some t =>
  obtain ⟨k,w⟩:=t
  refine ExP.cond (fun hk=>?_) (fun _=>ExP.err)
  cases of_decide_eq_true hk
  exact ExP.adv (JL0 ht) (h w ht (JL0 ht))
theorem ExP.name {f:List UInt8→Pg} (h:∀ w,p<l.length→ExP l (f w) (p+1)):ExP l (Pg.name f) p:=by
 refine ExP.look ?_
 cases ht:l[p]? with
 | none=>exact ExP.err
 | some t=>exact ExP.cond (fun _=>ExP.adv (JL0 ht) (h _ (JL0 ht))) (fun _=>ExP.err)
theorem ExP.tail {w:List UInt8} {f:List UInt8→Pg} (hw:w≠[]) (h:∀ v,ExP l (f v) p):ExP l (Pg.tail w f) p:=by
 cases w with
 | nil=>exact absurd rfl hw
 | cons c v=>exact h v
theorem ExP.atEnd {a b:Pg} (h:ExP l a p) (h':ExP l b p):ExP l (Pg.atEnd a b) p:=by
 refine ExP.look ?_
 cases l[p]? with
 | none=>exact h
 | some t=>exact h'
end ex
def rank:NT→Nat
 | .rows one _ _=>rank one+1
 | .term=>1 | .root=>1 | .key=>1 | .post=>2 | .operand=>3 | .exp _=>4 | .unit=>3 | .value=>4 | .pair=>2 | .keyPat=>2 | .ifsL _=>5 | .ifs=>6 | .reduce=>3 | .each=>3 | .array=>5 | .paren=>5 | .rest _=>5 | .object=>4 | .postL _=>1 | .progL _=>1 | .program=>6
 | _=>0
def JT0 (l:List (Int×List UInt8)):Prop:=∀ (p:Nat) (w:List UInt8),(l[p]?=some ((4:Int),w)∨l[p]?=some ((5:Int),w))→w≠[]
abbrev Hyp (l:List (Int×List UInt8)) (r p:Nat):Prop:=∀ y q,p≤q→q≤l.length→(p<q∨rank y<r)→EndsG l y q
theorem KF0 {l:List (Int×List UInt8)} (hT:JT0 l) {p:Nat} (hp:p≤l.length) (x:NT) (H:Hyp l (rank x) p):ExP l (Pg.body x) p:=by
 cases x with
 | expL L c n =>
  refine ExP.look ?_
  cases ht:l[p]? with
  | none=>exact ExP.ret
  | some t =>
   have hl:=JL0 ht
   refine ExP.cond (fun _=>ExP.ret) (fun _=>ExP.cond (fun _=>ExP.ret) (fun _=>ExP.cond (fun _=>ExP.err) (fun _=>ExP.adv hl ?_)))
   (repeat' first | exact ExP.ret | (refine ExP.call (by omega) (H _ _ (by omega) (by omega) (by first | exact .inl (by omega) | exact .inr (by decide) | exact .inr (Nat.lt_succ_self _) | exact .inr (Nat.succ_pos _))) (fun a q hc h1 h2=>?_);first | (have hd:=hc rfl;clear hc) | skip))
 | term =>
  refine ExP.look ?_
  cases ht:l[p]? with
  | none=>exact ExP.err
  | some t =>
   obtain ⟨k,w⟩:=t
   have hl:=JL0 ht
   have W:∀ no,ExP l no p→ExP l (Pg.byWord w no) p:=by
    intro no hno
    unfold Pg.byWord
    refine ExP.cond (fun _=>ExP.adv hl ExP.ret) (fun _=>?_)
    refine ExP.cond (fun _=>ExP.adv hl ?_) (fun _=>?_)
    ·unfold Pg.call1;(repeat' first | exact ExP.ret | (refine ExP.call (by omega) (H _ _ (by omega) (by omega) (by first | exact .inl (by omega) | exact .inr (by decide) | exact .inr (Nat.lt_succ_self _) | exact .inr (Nat.succ_pos _))) (fun a q hc h1 h2=>?_);first | (have hd:=hc rfl;clear hc) | skip))
    refine ExP.cond (fun _=>ExP.adv hl ?_) (fun _=>?_)
    ·unfold Pg.call1;(repeat' first | exact ExP.ret | (refine ExP.call (by omega) (H _ _ (by omega) (by omega) (by first | exact .inl (by omega) | exact .inr (by decide) | exact .inr (Nat.lt_succ_self _) | exact .inr (Nat.succ_pos _))) (fun a q hc h1 h2=>?_);first | (have hd:=hc rfl;clear hc) | skip))
    refine ExP.cond (fun _=>ExP.adv hl ?_) (fun _=>?_)
    ·unfold Pg.call1;(repeat' first | exact ExP.ret | (refine ExP.call (by omega) (H _ _ (by omega) (by omega) (by first | exact .inl (by omega) | exact .inr (by decide) | exact .inr (Nat.lt_succ_self _) | exact .inr (Nat.succ_pos _))) (fun a q hc h1 h2=>?_);first | (have hd:=hc rfl;clear hc) | skip))
    refine ExP.cond (fun _=>ExP.adv hl ?_) (fun _=>?_)
    ·unfold Pg.call1;(repeat' first | exact ExP.ret | (refine ExP.call (by omega) (H _ _ (by omega) (by omega) (by first | exact .inl (by omega) | exact .inr (by decide) | exact .inr (Nat.lt_succ_self _) | exact .inr (Nat.succ_pos _))) (fun a q hc h1 h2=>?_);first | (have hd:=hc rfl;clear hc) | skip))
    refine ExP.cond (fun _=>ExP.adv hl ?_) (fun _=>?_)
    ·unfold Pg.call1;(repeat' first | exact ExP.ret | (refine ExP.call (by omega) (H _ _ (by omega) (by omega) (by first | exact .inl (by omega) | exact .inr (by decide) | exact .inr (Nat.lt_succ_self _) | exact .inr (Nat.succ_pos _))) (fun a q hc h1 h2=>?_);first | (have hd:=hc rfl;clear hc) | skip))
    refine ExP.cond (fun _=>ExP.adv hl ?_) (fun _=>?_)
    ·unfold Pg.call1;(repeat' first | exact ExP.ret | (refine ExP.call (by omega) (H _ _ (by omega) (by omega) (by first | exact .inl (by omega) | exact .inr (by decide) | exact .inr (Nat.lt_succ_self _) | exact .inr (Nat.succ_pos _))) (fun a q hc h1 h2=>?_);first | (have hd:=hc rfl;clear hc) | skip))
    refine ExP.cond (fun _=>ExP.adv hl ?_) (fun _=>?_)
    ·unfold Pg.call1;(repeat' first | exact ExP.ret | (refine ExP.call (by omega) (H _ _ (by omega) (by omega) (by first | exact .inl (by omega) | exact .inr (by decide) | exact .inr (Nat.lt_succ_self _) | exact .inr (Nat.succ_pos _))) (fun a q hc h1 h2=>?_);first | (have hd:=hc rfl;clear hc) | skip))
    refine ExP.cond (fun _=>ExP.adv hl ?_) (fun _=>hno)
    unfold Pg.one1
    (repeat' first | exact ExP.ret | refine ExP.take (fun w hw _=>?_) | (refine ExP.tail (hT _ _ (by first | exact .inl (by assumption) | exact .inr (by assumption))) (fun v=>?_)))
   refine ExP.cond (fun hk=>?_) (fun _=>?_)
   ·cases of_decide_eq_true hk
    exact ExP.adv hl (ExP.tail (hT p w (.inl ht)) fun _=>ExP.ret)
   refine ExP.cond (fun hk=>?_) (fun _=>?_)
   ·cases of_decide_eq_true hk
    exact ExP.adv hl (ExP.tail (hT p w (.inr ht)) fun _=>ExP.ret)
   refine ExP.cond (fun _=>ExP.adv hl ExP.ret) (fun _=>?_)
   unfold Pg.call1
   refine ExP.cond (fun _=>?_) (fun _=>?_)
   ·(repeat' first | exact ExP.ret | (refine ExP.call (by omega) (H _ _ (by omega) (by omega) (by first | exact .inl (by omega) | exact .inr (by decide) | exact .inr (Nat.lt_succ_self _) | exact .inr (Nat.succ_pos _))) (fun a q hc h1 h2=>?_);first | (have hd:=hc rfl;clear hc) | skip))
   refine ExP.cond (fun _=>ExP.adv hl ?_) (fun _=>?_)
   ·(repeat' first | exact ExP.ret | (refine ExP.call (by omega) (H _ _ (by omega) (by omega) (by first | exact .inl (by omega) | exact .inr (by decide) | exact .inr (Nat.lt_succ_self _) | exact .inr (Nat.succ_pos _))) (fun a q hc h1 h2=>?_);first | (have hd:=hc rfl;clear hc) | skip) | refine ExP.cond (fun _=>?_) (fun _=>?_))
   refine ExP.cond (fun _=>W _ ?_) (fun _=>?_)
   ·(repeat' first | exact ExP.ret | exact ExP.err | (refine ExP.call (by omega) (H _ _ (by omega) (by omega) (by first | exact .inl (by omega) | exact .inr (by decide) | exact .inr (Nat.lt_succ_self _) | exact .inr (Nat.succ_pos _))) (fun a q hc h1 h2=>?_);first | (have hd:=hc rfl;clear hc) | skip) | refine ExP.cond (fun _=>?_) (fun _=>?_))
   exact ExP.cond (fun _=>W _ ExP.err) (fun _=>ExP.err)
 | program =>
  refine ExP.call hp (H _ _ (Nat.le_refl p) hp (.inr (by decide))) (fun a q _ h1 h2=>?_)
  simp only [Pg.finish]
  cases a.ks with
  | nil=>dsimp only;(repeat' first | exact ExP.ret | exact ExP.err | refine ExP.has (fun _=>?_) ?_ | refine ExP.atEnd ?_ ?_ | (refine ExP.call (by omega) (H _ _ (by omega) (by omega) (by first | exact .inl (by omega) | exact .inr (by decide) | exact .inr (Nat.lt_succ_self _) | exact .inr (Nat.succ_pos _))) (fun a q hc h1 h2=>?_);first | (have hd:=hc rfl;clear hc) | skip))
  | cons b c=>dsimp only;(repeat' first | exact ExP.ret | exact ExP.err | refine ExP.has (fun _=>?_) ?_ | refine ExP.atEnd ?_ ?_ | (refine ExP.call (by omega) (H _ _ (by omega) (by omega) (by first | exact .inl (by omega) | exact .inr (by decide) | exact .inr (Nat.lt_succ_self _) | exact .inr (Nat.succ_pos _))) (fun a q hc h1 h2=>?_);first | (have hd:=hc rfl;clear hc) | skip))
 | _=>simp only [Pg.body,Pg.call1,Pg.source,Pg.textQ,Pg.pipe] <;> (repeat' first | exact ExP.ret | exact ExP.err | refine ExP.has (fun _=>?_) ?_ | refine ExP.take (fun w hw _=>?_) | refine ExP.name (fun w _=>?_) | refine ExP.atEnd ?_ ?_ | refine ExP.is (fun b _=>?_) | (refine ExP.tail (hT _ _ (by first | exact .inl (by assumption) | exact .inr (by assumption))) (fun v=>?_)) | (refine ExP.call (by omega) (H _ _ (by omega) (by omega) (by first | exact .inl (by omega) | exact .inr (by decide) | exact .inr (Nat.lt_succ_self _) | exact .inr (Nat.succ_pos _))) (fun a q hc h1 h2=>?_);first | (have hd:=hc rfl;clear hc) | skip) | refine ExP.cond (fun _=>?_) (fun _=>?_))
theorem ex_all {l:List (Int×List UInt8)} (hT:JT0 l) (d:Nat):∀ p,p≤l.length→l.length-p≤d→∀ r x,rank x≤r→EndsG l x p:=by
 induction d with
 | zero =>
  intro p hp hd r
  induction r with
  | zero=>exact fun x hx=>EndsG.of (KF0 hT hp x fun y q h1 h2 h3=>absurd h3 (by omega))
  | succ r IH =>
   refine fun x hx=>EndsG.of (KF0 hT hp x fun y q h1 h2 h3=>?_)
   have e:q=p:=by omega
   subst e
   exact IH y (by omega)
 | succ d ID =>
  intro p hp hd r
  induction r with
  | zero=>exact fun x hx=>EndsG.of (KF0 hT hp x fun y q h1 h2 h3=>ID q h2 (by omega) _ y (Nat.le_refl _))
  | succ r IH =>
   refine fun x hx=>EndsG.of (KF0 hT hp x fun y q h1 h2 h3=>?_)
   by_cases e:p<q
   ·exact ID q h2 (by omega) _ y (Nat.le_refl _)
   ·have e:q=p:=by omega
    subst e
    exact IH y (by omega)
theorem ends (l:List (Int×List UInt8)) (hT:JT0 l) (x:NT) (p:Nat) (hp:p≤l.length):∃ n r,qb0 l n x p=some r:=ex_all hT _ p hp (Nat.le_refl _) _ x (Nat.le_refl _)
structure T4 (es:List V) (l:List (Int×List UInt8)) (n:Nat):Prop extends T3 es l n where
 textF:∀ {m},12*n+wid l+12≤m→∀ w p,l[p]?=some (12,w)→p<l.length→∀ r,qb0 l n (.textF w) (p+1)=some r→(MF m).N 74 es (p:Nat)=qB0 r
 progL:∀ {m},12*n+wid l+12≤m→∀ v len acc p,p≤l.length→len=acc.length→len≤2*p+2→GndR acc→∀ r,qb0 l n (.progL acc) p=some r→ER r ((MF m).progL es v len acc (p:Nat))
 program:∀ {m},12*n+wid l+12≤m→∀ p,p≤l.length→∀ r,qb0 l n .program p=some r→(MF m).N 26 es (p:Nat)=qB0 r
theorem t_zero (es:List V) (l:List (Int×List UInt8)):T4 es l 0:=by
 refine { toT3:={ toT2:={ toT1:=?_,textL:=?_,plainL:=?_,ifsL:=?_ },one:=?_,rows:=?_,key:=?_,rowsL:=?_ },textF:=?_,progL:=?_,program:=?_ }
 ·constructor <;> (intros;rename_i h;cases h)
 all_goals (intros;rename_i h;cases h)
theorem t_step {es:List V} {l:List (Int×List UInt8)} {n:Nat} (I:Items es l) (HP:JS0) (X:T4 es l n):T4 es l (n+1):=by
 have A:T1 es l (n+1):=by
  refine {
   exp:=fun {m} hm L p hp r hr=>by
    obtain ⟨k,rfl⟩:∃ k,m=k+1:=⟨m-1,by omega⟩;exact t_exp I X.toT3.toT2.toT1 (by omega) hp L r hr,
   expL:=fun {m} hm L c k0 p hp r hr=>by
    obtain ⟨k,rfl⟩:∃ k,m=k+1:=⟨m-1,by omega⟩;exact t_expL I X.toT3.toT2.toT1 (by omega) hp L c k0 r hr,
   operand:=fun {m} hm  p hp r hr=>by
    obtain ⟨k,rfl⟩:∃ k,m=k+1:=⟨m-1,by omega⟩;exact QL2 I X.toT3.toT2.toT1 (by omega) hp r hr,
   post:=fun {m} hm  p hp r hr=>by
    obtain ⟨k,rfl⟩:∃ k,m=k+1:=⟨m-1,by omega⟩;exact t_post I X.toT3.toT2.toT1 (by omega) hp r hr,
   postL:=fun {m} hm k0 p hp r hr=>by
    obtain ⟨k,rfl⟩:∃ k,m=k+1:=⟨m-1,by omega⟩;exact QR2 I X.toT3.toT2.toT1 (by omega) hp k0 r hr,
   term:=fun {m} hm  p hp r hr=>by
    obtain ⟨k,rfl⟩:∃ k,m=k+1:=⟨m-1,by omega⟩;exact t_term I X.toT3 X.textF (by omega) hp r hr,
   text:=fun {m} hm  p hp r hr=>by
    obtain ⟨k,rfl⟩:∃ k,m=k+1:=⟨m-1,by omega⟩;exact t_text I X.toT3.toT2 (by omega) hp r hr,
   plain:=fun {m} hm  p hp r hr=>by
    obtain ⟨k,rfl⟩:∃ k,m=k+1:=⟨m-1,by omega⟩;exact QP2 I X.toT3.toT2 (by omega) hp r hr,
   bring:=fun {m} hm  p hp r hr=>by
    obtain ⟨k,rfl⟩:∃ k,m=k+1:=⟨m-1,by omega⟩;exact QH2 I X.toT3 HP (by omega) hp r hr,
   root:=fun {m} hm  p hp r hr=>by
    obtain ⟨k,rfl⟩:∃ k,m=k+1:=⟨m-1,by omega⟩;exact t_root I X.toT3.toT2.toT1 (by omega) hp r hr,
   array:=fun {m} hm  p hp r hr=>by
    obtain ⟨k,rfl⟩:∃ k,m=k+1:=⟨m-1,by omega⟩;exact QG2 I X.toT3.toT2.toT1 (by omega) hp r hr,
   paren:=fun {m} hm  p hp r hr=>by
    obtain ⟨k,rfl⟩:∃ k,m=k+1:=⟨m-1,by omega⟩;exact QN2 I X.toT3.toT2.toT1 (by omega) hp r hr,
   object:=fun {m} hm  p hp r hr=>by
    obtain ⟨k,rfl⟩:∃ k,m=k+1:=⟨m-1,by omega⟩;exact QK2 I X.toT3 (by omega) hp r hr,
   ifs:=fun {m} hm  p hp r hr=>by
    obtain ⟨k,rfl⟩:∃ k,m=k+1:=⟨m-1,by omega⟩;exact t_ifs I X.toT3.toT2 (by omega) hp r hr,
   reduce:=fun {m} hm  p hp r hr=>by
    obtain ⟨k,rfl⟩:∃ k,m=k+1:=⟨m-1,by omega⟩;exact QU2 I X.toT3.toT2.toT1 (by omega) hp r hr,
   each:=fun {m} hm  p hp r hr=>by
    obtain ⟨k,rfl⟩:∃ k,m=k+1:=⟨m-1,by omega⟩;exact t_each I X.toT3.toT2.toT1 (by omega) hp r hr,
   callw:=fun {m} hm  p hp r hr=>by
    obtain ⟨k,rfl⟩:∃ k,m=k+1:=⟨m-1,by omega⟩;exact QI2 I X.toT3 (by omega) hp r hr,
   pair:=fun {m} hm  p hp r hr=>by
    obtain ⟨k,rfl⟩:∃ k,m=k+1:=⟨m-1,by omega⟩;exact t_pair I X.toT3 (by omega) hp r hr,
   value:=fun {m} hm  p hp r hr=>by
    obtain ⟨k,rfl⟩:∃ k,m=k+1:=⟨m-1,by omega⟩;exact QY2 I X.toT3.toT2.toT1 (by omega) hp r hr,
   unit:=fun {m} hm  p hp r hr=>by
    obtain ⟨k,rfl⟩:∃ k,m=k+1:=⟨m-1,by omega⟩;exact t_unit I X.toT3.toT2.toT1 (by omega) hp r hr,
   keyPat:=fun {m} hm  p hp r hr=>by
    obtain ⟨k,rfl⟩:∃ k,m=k+1:=⟨m-1,by omega⟩;exact QJ2 I X.toT3 (by omega) hp r hr,
   pattern:=fun {m} hm  p hp r hr=>by
    obtain ⟨k,rfl⟩:∃ k,m=k+1:=⟨m-1,by omega⟩;exact QO2 I X.toT3 (by omega) hp r hr,
   dfn:=fun {m} hm b p hp r hr=>by
    obtain ⟨k,rfl⟩:∃ k,m=k+1:=⟨m-1,by omega⟩
    cases b with
    | true=>exact t_dfnT I X.toT3 HP (by omega) hp r hr
    | false=>exact t_dfnF I X.toT3 HP (by omega) hp r hr,
   rest:=fun {m} hm b p hp r hr=>by
    obtain ⟨k,rfl⟩:∃ k,m=k+1:=⟨m-1,by omega⟩;exact t_rest I X.toT3.toT2.toT1 (by omega) hp b r hr,
   within:=fun {m} hm k0 d p hp r hr=>by
    obtain ⟨k,rfl⟩:∃ k,m=k+1:=⟨m-1,by omega⟩;exact QZ2 I X.toT3.toT2.toT1 (by omega) hp k0 d r hr }
 have B:T2 es l (n+1):=by
  refine {
   toT1:=A,
   textL:=fun {m} hm t v len acc p hp hl hb hg r hr=>by
    obtain ⟨k,rfl⟩:∃ k,m=k+1:=⟨m-1,by omega⟩;exact QX2 I X.toT3.toT2 (by omega) hp t v len acc hl hb hg r hr,
   plainL:=fun {m} hm v len acc p hp hl hb hg r hr=>by
    obtain ⟨k,rfl⟩:∃ k,m=k+1:=⟨m-1,by omega⟩;exact QQ2 I X.toT3.toT2 (by omega) hp v len acc hl hb hg r hr,
   ifsL:=fun {m} hm v len acc p hp hl hb hg r hr=>by
    obtain ⟨k,rfl⟩:∃ k,m=k+1:=⟨m-1,by omega⟩;exact t_ifsL I X.toT3.toT2 (by omega) hp v len acc hl hb hg r hr }
 have C:T3 es l (n+1):=by
  refine {
   toT2:=B,
   one:=?_,
   rows:=fun {x i} hc {m} hm a b p hp r hr=>by
    obtain ⟨k,rfl⟩:∃ k,m=k+1:=⟨m-1,by omega⟩;have h:=t_rows (m:=k) I X.toT3 (by omega) hp hc a b r hr;cases hc <;> exact h,
   key:=fun {m} hm p hp r hr=>by
    obtain ⟨k,rfl⟩:∃ k,m=k+1:=⟨m-1,by omega⟩;exact t_key I X.toT3 (by omega) hp r hr,
   rowsL:=fun {x i} hc {m} hm a b v len acc p hp hl hb hg r hr=>by
    obtain ⟨k,rfl⟩:∃ k,m=k+1:=⟨m-1,by omega⟩;have h:=QV2 (m:=k) I X.toT3 (by omega) hp hc a b v len acc hl hb hg r hr;cases hc <;> exact h }
  intro x i hc m hm p hp r hr
  cases hc with
  | param=>obtain ⟨k,rfl⟩:∃ k,m=k+1:=⟨m-1,by omega⟩;exact QM2 I X.toT3 HP (by omega) hp r hr
  | pair=>exact A.pair (by omega) p hp r hr
  | pipe=>exact A.pipe (by omega) p hp r hr
  | keyPat=>exact A.keyPat (by omega) p hp r hr
  | pattern=>exact A.pattern (by omega) p hp r hr
 exact {
  toT3:=C,
  textF:=fun {m} hm w p hw hl r hr=>by
   obtain ⟨k,rfl⟩:∃ k,m=k+1:=⟨m-1,by omega⟩;have hp:p≤l.length:=by omega
   exact QW2 I X.toT3 (by omega) hp w hw hl r hr,
  progL:=fun {m} hm v len acc p hp hl hb hg r hr=>by
   obtain ⟨k,rfl⟩:∃ k,m=k+1:=⟨m-1,by omega⟩;exact QS2 I X.toT3 X.progL (by omega) hp v len acc hl hb hg r hr,
  program:=fun {m} hm p hp r hr=>by
   obtain ⟨k,rfl⟩:∃ k,m=k+1:=⟨m-1,by omega⟩;exact QT2 I X.toT3 X.progL (by omega) hp r hr }
theorem t_all {es:List V} {l:List (Int×List UInt8)} (I:Items es l) (HP:JS0) (n:Nat):T4 es l n:=by
 induction n with
 | zero=>exact t_zero es l
 | succ n IH=>exact t_step I HP IH
/-- THE PROGRAM'S ANSWER TO ITEMS. -/
def chg (t:Int×List UInt8):Int :=
 bif decide (t.1=9) then 1 else bif decide (t.1=10) then -1 else bif !decide (t.1=13) then 0
 else bif decide (t.2=[40]) then 1 else bif decide (t.2=[91]) then 1 else bif decide (t.2=[123]) then 1
 else bif decide (t.2=[41]) then -1 else bif decide (t.2=[93]) then -1 else bif decide (t.2=[125]) then -1 else 0
theorem chg_le (t:Int×List UInt8):-1≤chg t∧chg t≤1:=by
 unfold chg
 cases decide (t.1=9) <;> cases decide (t.1=10) <;> cases decide (t.1=13) <;> cases decide (t.2=[40]) <;> cases decide (t.2=[91]) <;> cases decide (t.2=[123]) <;> cases decide (t.2=[41]) <;> cases decide (t.2=[93]) <;> cases decide (t.2=[125]) <;> decide
def qU0:List (Int×List UInt8)→Int→Nat→Option Nat
 | [],_,_=>none
 | t::l,n,i=>bif decide (256<max (n+chg t) 0) then some i else qU0 l (max (n+chg t) 0) (i+1)
section q
variable {es:List V} {l:List (Int×List UInt8)} (I:Items es l)
theorem qF2 {m:Nat} (hm:1≤m) (t:Int×List UInt8):(MF m).change t.1 t.2=.ok (chg t):=by
 obtain ⟨m,rfl⟩:∃ k,m=k+1:=⟨m-1,by omega⟩
 change jQ0 PR.no PR.ok PR.er (MF m) t.1 t.2=_
 unfold jQ0 chg
 simp only [Gn0]
 include I
theorem qG2:∀ (d m i:Nat) (n:Int),i≤l.length→l.length-i≤d→d+2≤m→0≤n→n≤256→(MF m).deepL es n (i:Nat)=(match qU0 (l.drop i) n i with
 | some k=>.er (k:Int)
 | none=>.ok ()):=by
 have hl:=I.len
 have hs:=I.small
 intro d
 induction d with
 | zero =>
  intro m i n hi hd hm h0 h1
  obtain ⟨m,rfl⟩:∃ k,m=k+1:=⟨m-1,by omega⟩
  change yM0 PR.no PR.ok PR.er (MF m) es n i=_
  unfold yM0
  rw [decide_eq_false (by omega),cond_false,List.drop_eq_nil_of_le (by omega)]
  rfl
 | succ d IH =>
  intro m i n hi hd hm h0 h1
  obtain ⟨m,rfl⟩:∃ k,m=k+1:=⟨m-1,by omega⟩
  change yM0 PR.no PR.ok PR.er (MF m) es n i=_
  unfold yM0
  rcases Nat.lt_or_ge i l.length with h | h
  ·have e1:Int.toNat (i:Int)=i:=Int.toNat_natCast i
   have hk:gI 4 es (i*4) 0=l[i].1:=I.kind i h
   have ht:gS 4 es (i*4) 1=l[i].2:=I.text i h
   have hc:=chg_le l[i]
   rw [decide_eq_true (by omega),cond_true,qR0 ⟨by omega,by omega⟩,e1,qR0 (I.ldd i h),hk,ht,qF2 (by omega),List.drop_eq_getElem_cons h]
   dsimp only [PR.bnd,qU0]
   rw [qR0 ⟨by omega,by omega⟩]
   cases hb:decide (256<max (n+chg l[i]) 0) with
   | true=>rfl
   | false =>
    have hb':=of_decide_eq_false hb
    rw [cond_false,cond_false,qR0 ⟨by omega,by omega⟩]
    have h2:=IH m (i+1) (max (n+chg l[i]) 0) (by omega) (by omega) (by omega) (by omega) (by omega)
    change (MF m).deepL es (max (n+chg l[i]) 0) ((i:Int)+1)=_ at h2
    rw [h2]
    cases qU0 (l.drop (i+1)) (max (n+chg l[i]) 0) (i+1) <;> rfl
  ·rw [decide_eq_false (by omega),cond_false,List.drop_eq_nil_of_le (by omega)]
   rfl
theorem zK1 {m:Nat} (hm:l.length+3≤m):(MF m).deep es=(match qU0 l 0 0 with
 | some k=>.ok ((k:Int),true)
 | none=>.ok (0,false)):=by
 obtain ⟨m,rfl⟩:∃ k,m=k+1:=⟨m-1,by omega⟩
 change jR0 PR.no PR.ok PR.er (MF m) es=_
 unfold jR0
 have h:=qG2 I l.length m 0 0 (by omega) (by omega) (by omega) (by omega) (by omega)
 change (MF m).deepL es 0 0=_ at h
 rw [h,List.drop_zero]
 cases qU0 l 0 0 <;> rfl
end q
def progV (x:Nd×Nat×Nat):V:=.tup [qa0 x.1,.int .u16 (x.2.1:Int),.int .i64 (x.2.2:Int)]
def YJ0 (l:List (Int×List UInt8)) (x:Nd×Nat×Nat):Prop:=match qU0 l 0 0 with
 | some i=>x=(⟨0,[],[]⟩,21,i)
 | none=>∃ n,(∃ a q,qb0 l n .program 0=some (.ok (a,q))∧x=(a,0,0))∨(∃ e,qb0 l n .program 0=some (.er e)∧x=(⟨0,[],[]⟩,22,e))
theorem e_prog (X:PsX) (ih:Task→Res) {β:Type} (bot:β) (k:Res→β) (es:List V):evN PP EP CP (tbP X) ih bot (.call 14 [.osl 4 es] Heap.empty) k=PR.bnd bot ((FX X).deep es) (fun a=>bif a.2 then k (.ret (.tup [.agg [.int .i64 0,.str [],.osl 3 []],.int .u16 21,.int .i64 a.1]) Heap.empty) else PR.bnd bot ((FX X).N 26 es 0) (fun b=>k (.ret (.tup [qa0 b.1,.int .u16 0,.int .i64 0]) Heap.empty)) (fun e=>need bot (vEq (.int .i64 e) (.int .i64 e)) (need bot (vEq (.int .i64 e) (.int .i64 e)) (need bot (vEq (.ptr 6 0 0) (.ptr 6 0 0)) (need bot (vEq (.ptr 6 0 0) (.ptr 6 0 0)) (k (.ret (.tup [.agg [.int .i64 0,.str [],.osl 3 []],.int .u16 22,.int .i64 e]) Heap.empty))))))) (fun _=>bot):=by kernel_rfl
theorem Yn0 {α ε:Type} {x y:PR α ε} {a:PR α ε} (h:le1 x y) (hx:x=a) (ha:a≠.no):y=a:=by
 rcases h with h | h
 ·exact absurd (hx.symm.trans h) ha
 ·rw [← h,hx]
theorem yb2 {es:List V} {l:List (Int×List UInt8)} (I:Items es l) (hT:JT0 l):∃ x,YJ0 l x∧∃ N0,∀ N,N0≤N→rn PP EP CP N (.call 14 [.osl 4 es] Heap.empty)=.ret (progV x) Heap.empty:=by
 obtain ⟨n,r,hr⟩:=ends l hT .program 0 (Nat.zero_le _)
 have fin:∀ m v,(PR.bnd none ((FX (XF m)).deep es) (fun a=>bif a.2 then some (.ret (.tup [.agg [.int .i64 0,.str [],.osl 3 []],.int .u16 21,.int .i64 a.1]) Heap.empty) else PR.bnd none ((FX (XF m)).N 26 es 0) (fun b=>some (.ret (.tup [qa0 b.1,.int .u16 0,.int .i64 0]) Heap.empty)) (fun e=>need none (vEq (.int .i64 e) (.int .i64 e)) (need none (vEq (.int .i64 e) (.int .i64 e)) (need none (vEq (.ptr 6 0 0) (.ptr 6 0 0)) (need none (vEq (.ptr 6 0 0) (.ptr 6 0 0)) (some (.ret (.tup [.agg [.int .i64 0,.str [],.osl 3 []],.int .u16 22,.int .i64 e]) Heap.empty))))))) (fun _=>none):Option Res)=some (.ret v Heap.empty)→rn PP EP CP (m+1) (.call 14 [.osl 4 es] Heap.empty)=.ret v Heap.empty:=by
  intro m v hv
  have h2:=Xm0 (bot:=(none:Option Res)) (yz1 m) (.call 14 [.osl 4 es] Heap.empty) some
  rw [e_prog,hv] at h2
  rcases h2 with h2 | h2
  ·cases h2
  ·exact (Option.some.inj h2).symm
 unfold YJ0
 cases hS:qU0 l 0 0 with
 | some i =>
  refine ⟨_,rfl,12*n+wid l+l.length+13,fun N hN=>?_⟩
  obtain ⟨m,rfl⟩:∃ k,N=k+1:=⟨N-1,by omega⟩
  have hd:=zK1 I (m:=m) (by omega)
  rw [hS] at hd
  refine fin m _ ?_
  rw [Yn0 ((Gb0 m).deep es) hd (by intro h;cases h)]
  rfl
 | none =>
  cases r with
  | ok a =>
   refine ⟨(a.1,0,0),⟨n,.inl ⟨a.1,a.2,hr,rfl⟩⟩,12*n+wid l+l.length+13,fun N hN=>?_⟩
   obtain ⟨m,rfl⟩:∃ k,N=k+1:=⟨N-1,by omega⟩
   have hm:=(t_all I ZC1 n).program (m:=m) (by omega) 0 (Nat.zero_le _) _ hr
   have hd:=zK1 I (m:=m) (by omega)
   rw [hS] at hd
   have L:=Gb0 m
   have hN:=L.N 26 es 0
   change (MF m).N 26 es 0=qB0 (.ok a) at hm
   refine fin m _ ?_
   rw [Yn0 (L.deep es) hd (by intro h;cases h),Yn0 hN hm (by intro h;cases h)]
   rfl
  | er e =>
   refine ⟨(⟨0,[],[]⟩,22,e),⟨n,.inr ⟨e,hr,rfl⟩⟩,12*n+wid l+l.length+13,fun N hN=>?_⟩
   obtain ⟨m,rfl⟩:∃ k,N=k+1:=⟨N-1,by omega⟩
   have hm:=(t_all I ZC1 n).program (m:=m) (by omega) 0 (Nat.zero_le _) _ hr
   have hd:=zK1 I (m:=m) (by omega)
   rw [hS] at hd
   have L:=Gb0 m
   have hN:=L.N 26 es 0
   change (MF m).N 26 es 0=qB0 (.er e) at hm
   refine fin m _ ?_
   rw [Yn0 (L.deep es) hd (by intro h;cases h),Yn0 hN hm (by intro h;cases h)]
   dsimp only [PR.bnd,qB0,cond_false]
   have E:∀ v:V,vEq v v:=fun v=>rfl
   rw [qR0 (E _),qR0 (E _),qR0 (E _),qR0 (E _)]
   rfl
  | no=>exact (qd0 l n .program 0 .no hr (Nat.zero_le _)).elim
/-- THE PLAIN LAW OF ParseFirst: what stands behind an error's place changes nothing; ahead of it a program begins. -/
theorem yP2 {l:List (Int×List UInt8)} {n m:Nat} {x:NT} {p:Nat} {a b:PR (Nd×Nat) Nat} (ha:qb0 l n x p=some a) (hb:qb0 l m x p=some b):a=b:=by
 have h1:=JF0 (Nat.le_max_left n m) ha
 have h2:=JF0 (Nat.le_max_right n m) hb
 rw [h1] at h2
 exact Option.some.inj h2
/-- THE MAKER OF CHOICES, THE REFERENCE's LEXER AND ITEMS: what calls come to. -/
noncomputable def hpG (es:List V) (k:Int):Heap:=hp [.row 0 53 2 0 (some 1) [.agg [.osl 1 es,.int .i64 k]]]
noncomputable def hpL (ver:Nat) (l:List V):Heap:=hp [.row ver 49 2 0 none l]
structure Lx where
 s:List UInt8
 at1:Int
 ver:Nat
 n:Nat
 l:List V
 o:List V
 i:Bool
 e:Int
 z:Bool
noncomputable def rL (b:Bool) (a:Lx):Res:=Bool.rec (.ret (.agg [.str a.s,.int .i64 a.at1,.nils,.osl 1 a.o,.bool a.i,.int .i64 11]) Heap.empty) (.ret (.agg [.str a.s,.int .i64 a.at1,.sl 0 a.ver 0 a.n none,.osl 1 a.o,.bool a.i,.int .i64 a.e]) (hpL a.ver a.l)) b
noncomputable def rLx (a:Lx):Res:=rL a.z a
noncomputable def rE (a:List V):Res:=.ret (.osl 1 a) Heap.empty
noncomputable def rE4 (a:List V):Res:=.ret (.osl 4 a) Heap.empty
noncomputable def rTk (a:Int×List UInt8):Res:=.ret (.agg [.int .i64 a.1,.str a.2]) Heap.empty
noncomputable def rGS (a:List V×Int×List UInt8):Res:=.ret (.str a.2.2) (hpG a.1 a.2.1)
noncomputable def rGI (a:List V×Int×Int):Res:=.ret (.int .i64 a.2.2) (hpG a.1 a.2.1)
noncomputable def rTT (a:List V×Int×Int):Res:=.ret (.tup [.osl 2 a.1,.int .i64 a.2.1,.int .i64 a.2.2]) Heap.empty
noncomputable def rIT (a:List V×List V):Res:=.ret (.tup [.osl 1 a.1,.osl 4 a.2]) Heap.empty
noncomputable def rPG (a:Nd×Int×Int):Res:=.ret (.tup [qa0 a.1,.int .u16 a.2.1,.int .i64 a.2.2]) Heap.empty
noncomputable def rJ (fr:Fr) (a:List UInt8×Int):Res:=.code (.exit 0) ((base fr.fn fr.n).on [(0,.str a.1),(3,.int .i64 a.2)]) Heap.empty
noncomputable def rJ2 (fr:Fr) (b:Bool) (a:Bool×List UInt8×Int×Int):Res:=Bool.rec (.code .ret ((base fr.fn fr.n).on [(0,.str a.2.1),(2,.int .i64 a.2.2.2),(3,.int .i64 a.2.2.1)]) Heap.empty) (.code (.exit 0) ((base fr.fn fr.n).on [(0,.str a.2.1),(3,.int .i64 a.2.2.1)]) Heap.empty) b
noncomputable def rJ3 (fr:Fr) (b:Bool) (a:Bool×List UInt8×Int):Res:=Bool.rec (.code .ret ((base fr.fn fr.n).on [(0,.str a.2.1),(2,.int .i64 a.2.2)]) Heap.empty) (.code (.exit 0) ((base fr.fn fr.n).on [(0,.str a.2.1)]) Heap.empty) b
noncomputable def rJ4 (fr:Fr) (b:Bool) (a:Bool×List UInt8×Int×Int×Int):Res:=Bool.rec (.code .ret ((base fr.fn fr.n).on [(0,.str a.2.1),(2,.int .i64 a.2.2.2.2),(3,.int .i64 a.2.2.1),(4,.int .i64 a.2.2.2.1)]) Heap.empty) (.code (.exit 0) ((base fr.fn fr.n).on [(0,.str a.2.1),(3,.int .i64 a.2.2.1),(4,.int .i64 a.2.2.2.1)]) Heap.empty) b
noncomputable abbrev nI {β:Type} (bot:β) (a:Int) (x:β):β:=need bot ((-9223372036854775808≤a)∧(a≤9223372036854775807)) x
noncomputable abbrev nX {β:Type} (bot:β) (i:Int) (n:Nat) (x:β):β:=need bot (((0:Int)≤i)∧(i<(n:Int))) x
noncomputable abbrev nG {β:Type} (bot:β) (v n:Nat) (l:List V) (x:β):β:=need bot ((v=v)∧((0=0)∧((n=List.length l)∧(GndR l)))) x
def jn {β:Type} (s:β) (F:β→β):β:=F s
def QN0 {α ε:Type} (x:PR α ε) (s:α→Bool) (R:Bool→α→Res) (Q:ε→Res):Ent:=⟨α,ε,x,s,fun _=>true,fun b _=>R b,Q⟩
noncomputable def rS4 (fr:Fr) (a:List V×List UInt8):Res:=.code (.exit 0) ((base fr.fn fr.n).on [(0,.osl 1 a.1),(4,.str a.2)]) Heap.empty
noncomputable def rJL (fr:Fr) (a:Lx):Res:=.code (.exit 0) ((base fr.fn fr.n).on [(0,.str a.s),(6,.ptr 0 0 0)]) (hp [.row 0 81 6 0 (some 1) [.agg [.str a.s,.int .i64 a.at1,.sl 1 a.ver 0 a.n none,.osl 1 a.o,.bool a.i,.int .i64 a.e]],.row a.ver 49 2 0 none a.l])
structure Ix where
 es:List V
 b1:Bool
 v1:Nat
 n1:Nat
 l1:List V
 b2:Bool
 v2:Nat
 n2:Nat
 l2:List V
abbrev strR (ver:Nat) (l:List V):Obj:=.row ver 9 1 0 none l
abbrev QV0 (ver:Nat) (l:List V):Obj:=.row ver 59 4 0 none l
noncomputable def rIx (fr:Fr) (b1 b2:Bool) (a:Ix):Res:=Bool.rec
 (Bool.rec (.code (.exit 0) ((base fr.fn fr.n).on [(0,.osl 2 a.es),(4,.nils),(5,.nils)]) Heap.empty) (.code (.exit 0) ((base fr.fn fr.n).on [(0,.osl 2 a.es),(4,.nils),(5,.sl 0 a.v2 0 a.n2 none)]) (hp [QV0 a.v2 a.l2])) b2)
 (Bool.rec (.code (.exit 0) ((base fr.fn fr.n).on [(0,.osl 2 a.es),(4,.sl 0 a.v1 0 a.n1 none),(5,.nils)]) (hp [strR a.v1 a.l1])) (.code (.exit 0) ((base fr.fn fr.n).on [(0,.osl 2 a.es),(4,.sl 0 a.v1 0 a.n1 none),(5,.sl 1 a.v2 0 a.n2 none)]) (hp [strR a.v1 a.l1,QV0 a.v2 a.l2])) b2) b1
noncomputable def rMx (fr:Fr) (b:Bool) (a:Bool×Nat×Nat×List V×List V):Res:=Bool.rec (.code (.exit 0) ((base fr.fn fr.n).on [(1,.osl 1 a.2.2.2.2),(15,.nils)]) Heap.empty) (.code (.exit 0) ((base fr.fn fr.n).on [(1,.osl 1 a.2.2.2.2),(15,.sl 0 a.2.1 0 a.2.2.1 none)]) (hp [QV0 a.2.1 a.2.2.2.1])) b
noncomputable def rOb (fr:Fr) (a:List V×Int×Int×List UInt8):Res:=.code (.exit 0) ((base fr.fn fr.n).on [(0,.ptr 0 0 0),(1,.int .i64 a.2.2.1),(5,.str a.2.2.2)]) (hpG a.1 a.2.1)
structure PmX where
 I:Task→PR Int Int
 O:Task→PR Bool Int
 W:Task→PR (List UInt8) Int
 E:Task→PR (List V) Int
 K:Task→PR (Int×List UInt8) Int
 GS:Task→PR (List V×Int×List UInt8) Int
 GI:Task→PR (List V×Int×Int) Int
 TT:Task→PR (List V×Int×Int) Int
 IT:Task→PR (List V×List V) Int
 PG:Task→PR (Nd×Int×Int) Int
 L:Task→PR Lx Int
 J:Task→PR (List UInt8×Int) Int
 J2:Task→PR (Bool×List UInt8×Int×Int) Int
 J3:Task→PR (Bool×List UInt8×Int) Int
 J4:Task→PR (Bool×List UInt8×Int×Int×Int) Int
 S4:Task→PR (List V×List UInt8) Int
 JL:Task→PR Lx Int
 Ix:Task→PR Ix Int
 Mx:Task→PR (Bool×Nat×Nat×List V×List V) Int
 Ob:Task→PR (List V×Int×Int×List UInt8) Int
 E4:Task→PR (List V) Int
noncomputable def tbMK (X:PmX) (t:Task) (k:Nat):Option Ent :=
 match k with
 | 1=>some (ent (X.I t) rI qN)
 | 2=>some (ent (X.O t) rO qN)
 | 3=>some (ent (X.W t) rW qN)
 | 4=>some (ent (X.E t) rE qN)
 | 5=>some (ent (X.K t) rTk qN)
 | 6=>some (ent (X.GS t) rGS qN)
 | 7=>some (ent (X.GI t) rGI qN)
 | 8=>some (ent (X.TT t) rTT qN)
 | 9=>some (ent (X.IT t) rIT qN)
 | 10=>some (ent (X.PG t) rPG qN)
 | 12=>some (ent (X.E4 t) rE4 qN)
 | 11=>some (QN0 (X.L t) (fun a=>a.z) (rL) qN)
 | _=>none
def kindM:T Nat:=(.n (.n (.n (.n (.n (.n .e 1 .e) 0 .e) 0 (.n (.n (.n .e 6 .e) 2 (.n .e 2 .e)) 0 (.n (.n (.n .e 1 .e) 0 .e) 0 .e))) 0 (.n (.n (.n (.n .e 1 .e) 6 .e) 0 .e) 4 (.n (.n .e 0 (.n .e 2 .e)) 0 .e))) 0 (.n (.n (.n (.n .e 11 .e) 0 .e) 0 (.n (.n .e 0 (.n .e 1 .e)) 0 .e)) 0 (.n (.n (.n (.n .e 11 .e) 6 (.n .e 1 .e)) 6 (.n (.n (.n .e 1 .e) 0 .e) 0 .e)) 12 (.n (.n .e 0 (.n .e 1 .e)) 0 .e)))) 0 (.n (.n (.n (.n (.n .e 11 .e) 0 .e) 0 (.n (.n (.n .e 6 .e) 0 (.n .e 1 .e)) 0 (.n (.n (.n .e 4 .e) 0 .e) 0 .e))) 0 (.n (.n (.n (.n .e 1 .e) 6 .e) 7 (.n (.n (.n .e 2 .e) 0 .e) 0 .e)) 3 (.n (.n .e 0 (.n .e 1 .e)) 0 .e))) 0 (.n (.n (.n (.n .e 6 .e) 8 .e) 3 (.n (.n .e 0 (.n .e 1 .e)) 0 .e)) 0 (.n (.n (.n (.n .e 5 .e) 6 (.n .e 1 .e)) 9 (.n (.n (.n .e 2 .e) 0 .e) 0 .e)) 10 (.n (.n .e 0 (.n .e 1 .e)) 0 .e)))))
def kindML:T Nat:=(.n (.n (.n (.n (.n (.n .e 3 .e) 0 .e) 0 (.n (.n (.n .e 9 .e) 0 .e) 0 (.n (.n (.n .e 1 .e) 0 .e) 0 .e))) 0 (.n (.n (.n (.n .e 4 .e) 0 .e) 0 .e) 0 .e)) 0 (.n (.n .e 0 (.n (.n .e 0 (.n .e 2 .e)) 0 .e)) 0 (.n (.n .e 0 (.n (.n (.n .e 1 .e) 0 .e) 0 .e)) 8 .e))) 0 (.n (.n (.n .e 0 (.n (.n .e 0 (.n .e 1 .e)) 0 .e)) 0 (.n (.n (.n (.n .e 2 .e) 0 .e) 0 .e) 5 (.n (.n .e 0 (.n .e 1 .e)) 0 .e))) 0 (.n (.n (.n .e 6 .e) 0 (.n (.n .e 0 (.n .e 1 .e)) 0 .e)) 0 (.n (.n (.n .e 0 (.n .e 3 .e)) 7 .e) 0 (.n (.n .e 0 (.n .e 3 .e)) 0 .e)))))
noncomputable def tbML (X:PmX) (t:Task) (fr:Fr):Option Ent :=
 match T.get 0 kindML fr.fn with
 | 1=>some (ent (X.J t) (rJ fr) qN)
 | 2=>some (QN0 (X.J2 t) (fun a=>a.1) (rJ2 fr) qN)
 | 3=>some (QN0 (X.J3 t) (fun a=>a.1) (rJ3 fr) qN)
 | 4=>some (QN0 (X.J4 t) (fun a=>a.1) (rJ4 fr) qN)
 | 5=>some (ent (X.S4 t) (rS4 fr) qN)
 | 6=>some (ent (X.JL t) (rJL fr) qN)
 | 7=>some ⟨_,_,X.Ix t,fun a=>a.b1,fun a=>a.b2,rIx fr,qN⟩
 | 8=>some (QN0 (X.Mx t) (fun a=>a.1) (rMx fr) qN)
 | 9=>some (ent (X.Ob t) (rOb fr) qN)
 | _=>none
noncomputable def tbPm (X:PmX) (t:Task):Option Ent :=
 match t with
 | .call f _ _=>tbMK X t (T.get 0 kindM f)
 | .code c fr _=>(match c with
  | .loop _=>tbML X t fr
  | _=>none)
 | _=>none
/-- FROM SOME NUMBER ON. -/
def Evt (p:Nat→Prop):Prop:=∃ n0,∀ n,n0≤n→p n
theorem Evt.and {p q:Nat→Prop} (h1:Evt p) (h2:Evt q):Evt fun n=>p n∧q n:=by
 obtain ⟨a,h1⟩:=h1
 obtain ⟨b,h2⟩:=h2
 exact ⟨max a b,fun n hn=>⟨h1 n (by omega),h2 n (by omega)⟩⟩
theorem Evt.mono {p q:Nat→Prop} (h1:Evt p) (h:∀ n,p n→q n):Evt q:=by
 obtain ⟨a,h1⟩:=h1
 exact ⟨a,fun n hn=>h n (h1 n hn)⟩
theorem Evt.of {p:Nat→Prop} (h:∀ n,p n):Evt p:=⟨0,fun n _=>h n⟩
def Rn (e:Nat→Option Res) (Q:Res→Prop):Prop:=∃ r,Q r∧Evt fun n=>e n=some r
theorem Rn.ret {Q:Res→Prop} {r:Res} (h:Q r):Rn (fun _=>some r) Q:=⟨r,h,.of fun _=>rfl⟩
theorem Rn.need {φ:Prop} {e:Nat→Option Res} {Q:Res→Prop} (hφ:φ) (h:Rn e Q):Rn (fun n=>need none φ (e n)) Q:=by
 obtain ⟨r,hr,hE⟩:=h
 exact ⟨r,hr,hE.mono fun n h=>by show AM.need none φ (e n)=some r;unfold AM.need;rw [if_pos hφ];exact h⟩
theorem Rn.cond {c:Bool} {a b:Nat→Option Res} {Q:Res→Prop} (h1:c=true→Rn a Q) (h2:c=false→Rn b Q):Rn (fun n=>bif c then a n else b n) Q:=by
 cases c with
 | true=>exact h1 rfl
 | false=>exact h2 rfl
theorem Rn.dec {p:Prop} [Decidable p] {a b:Nat→Option Res} {Q:Res→Prop} (h1:p→Rn a Q) (h2:¬ p→Rn b Q):Rn (fun n=>bif decide p then a n else b n) Q :=
 .cond (fun h=>h1 (of_decide_eq_true h)) (fun h=>h2 (of_decide_eq_false h))
theorem Rn.ndec {p:Prop} [Decidable p] {a b:Nat→Option Res} {Q:Res→Prop} (h1:¬ p→Rn a Q) (h2:p→Rn b Q):Rn (fun n=>bif !decide p then a n else b n) Q :=
 .cond (fun h=>h1 (by simpa using h)) (fun h=>h2 (by simpa using h))
theorem Rn.bnd {α ε:Type} {x:Nat→PR α ε} {v:α} {f:α→Nat→Option Res} {g:ε→Nat→Option Res} {Q:Res→Prop} (hx:Evt fun n=>x n=.ok v) (hf:Rn (f v) Q):Rn (fun n=>PR.bnd none (x n) (fun a=>f a n) (fun e=>g e n)) Q:=by
 obtain ⟨r,hr,hE⟩:=hf
 exact ⟨r,hr,(hx.and hE).mono fun n ⟨h1,h2⟩=>by show PR.bnd none (x n) _ _=_;rw [show x n=_ from h1];exact h2⟩
theorem Rn.nI {a:Int} {e:Nat→Option Res} {Q:Res→Prop} (h:-9223372036854775808≤a∧a≤9223372036854775807) (h2:Rn e Q):Rn (fun n=>AM.nI none a (e n)) Q:=.need h h2
theorem Rn.nX {i:Int} {m:Nat} {e:Nat→Option Res} {Q:Res→Prop} (h:0≤i∧i<(m:Int)) (h2:Rn e Q):Rn (fun n=>AM.nX none i m (e n)) Q:=.need h h2
noncomputable def frO:Task→Fr
 | .code _ fr _=>fr
 | _=>base 0 0
noncomputable def XM (n:Nat):PmX where
 I:=fun t=>exR rI qN (rn PP EP CP n t)
 O:=fun t=>exR rO qN (rn PP EP CP n t)
 W:=fun t=>exR rW qN (rn PP EP CP n t)
 E:=fun t=>exR rE qN (rn PP EP CP n t)
 K:=fun t=>exR rTk qN (rn PP EP CP n t)
 GS:=fun t=>exR rGS qN (rn PP EP CP n t)
 GI:=fun t=>exR rGI qN (rn PP EP CP n t)
 TT:=fun t=>exR rTT qN (rn PP EP CP n t)
 IT:=fun t=>exR rIT qN (rn PP EP CP n t)
 PG:=fun t=>exR rPG qN (rn PP EP CP n t)
 L:=fun t=>exR rLx qN (rn PP EP CP n t)
 J:=fun t=>exR (rJ (frO t)) qN (rn PP EP CP n t)
 J2:=fun t=>exR (fun a=>rJ2 (frO t) a.1 a) qN (rn PP EP CP n t)
 J3:=fun t=>exR (fun a=>rJ3 (frO t) a.1 a) qN (rn PP EP CP n t)
 J4:=fun t=>exR (fun a=>rJ4 (frO t) a.1 a) qN (rn PP EP CP n t)
 S4:=fun t=>exR (rS4 (frO t)) qN (rn PP EP CP n t)
 JL:=fun t=>exR (rJL (frO t)) qN (rn PP EP CP n t)
 Ix:=fun t=>exR (fun a=>rIx (frO t) a.b1 a.b2 a) qN (rn PP EP CP n t)
 Mx:=fun t=>exR (fun a=>rMx (frO t) a.1 a) qN (rn PP EP CP n t)
 Ob:=fun t=>exR (rOb (frO t)) qN (rn PP EP CP n t)
 E4:=fun t=>exR rE4 qN (rn PP EP CP n t)
theorem Rn.of {e e':Nat→Option Res} {Q:Res→Prop} (h:∀ n,e n=e' n) (h2:Rn e' Q):Rn e Q:=by
 rw [show e=e' from funext h];exact h2
def Tk (t:Task) (r:Res):Prop:=Evt fun n=>rn PP EP CP n t=r
theorem Tk.of {X:Nat→PmX} (hX:∀ n,Zk0 (rn PP EP CP n) (tbPm (X n))) {t:Task} {Q:Res→Prop} (h:Rn (fun n=>evN PP EP CP (tbPm (X n)) (rn PP EP CP n) none t some) Q):∃ r,Q r∧Tk t r:=by
 obtain ⟨r,hr,a,hE⟩:=h
 refine ⟨r,hr,a+1,fun n hn=>?_⟩
 obtain ⟨n,rfl⟩:∃ m,n=m+1:=⟨n-1,by omega⟩
 have h1:=Xm0 (bot:=(none:Option Res)) (hX n) t some
 have h2:evN PP EP CP (tbPm (X n)) (rn PP EP CP n) none t some=some r:=hE n (by omega)
 rw [h2] at h1
 rcases h1 with h1 | h1
 ·cases h1
 ·exact (Option.some.inj h1).symm
theorem yS0 {α ε:Type} {R:α→Res} {Q:ε→Res} {r:Res} {e:Ent} (he:ent (exR R Q r) R Q=e):e.x=.no∨e.res=r:=by
 subst he
 exact YX0 (fun _=>true) (fun _=>true) (fun _ _=>R) Q r
theorem Zt0 {α ε:Type} {s:α→Bool} {R:Bool→α→Res} {Q:ε→Res} {r:Res} {e:Ent} (he:QN0 (exR (fun a=>R (s a) a) Q r) s R Q=e):e.x=.no∨e.res=r:=by
 subst he
 exact YX0 s (fun _=>true) (fun b _=>R b) Q r
theorem tblXM (n:Nat):Zk0 (rn PP EP CP n) (tbPm (XM n)):=by
 intro t e he
 unfold tbPm at he
 split at he
 ·unfold tbMK at he
  split at he <;> first | (cases he;done) | exact yS0 (Option.some.inj he) | exact Zt0 (Option.some.inj he)
 ·rename_i c fr h
  split at he
  ·unfold tbML at he
   split at he <;> first | (cases he;done) | exact yS0 (R:=rJ fr) (Option.some.inj he) | exact Zt0 (R:=rJ2 fr) (Option.some.inj he) | exact Zt0 (R:=rJ3 fr) (Option.some.inj he) | exact Zt0 (R:=rJ4 fr) (Option.some.inj he) | exact yS0 (R:=rS4 fr) (Option.some.inj he) | exact yS0 (R:=rJL fr) (Option.some.inj he) | exact yS0 (R:=rOb fr) (Option.some.inj he) | exact Zt0 (R:=rMx fr) (Option.some.inj he) | (cases he;exact YX0 (fun a=>a.b1) (fun a=>a.b2) (rIx fr) qN _)
  ·cases he
 ·cases he
theorem KW1 {α ε:Type} {R:α→Res} {Q:ε→Res} (a:α):∃ a',R a'=R a∧exR R Q (R a)=.ok a':=by
 unfold exR
 have h1:∃ b,R a=R b:=⟨a,rfl⟩
 rw [dif_pos h1]
 exact ⟨_,(Classical.choose_spec h1).symm,rfl⟩
theorem Tk.by {t:Task} {Q:Res→Prop} (h:Rn (fun n=>evN PP EP CP (tbPm (XM n)) (rn PP EP CP n) none t some) Q):∃ r,Q r∧Tk t r:=Tk.of tblXM h
/-- DATA: tokens, items, texts, numbers as elements of rows. -/
theorem yy0 {sz:Nat} {es:List V} {i j q:Nat} {e:V} (hz:j<sz) (he:es[i]?=some e):YO0 sz es (i*sz+j) q=e.cells.getD (j+q) undef:=by
 have h1:(i*sz+j)/sz=i:=by rw [Nat.add_comm,Nat.add_mul_div_right _ _ (by omega),Nat.div_eq_of_lt hz,Nat.zero_add]
 have h2:(i*sz+j)%sz=j:=by rw [Nat.add_comm,Nat.add_mul_mod_self_right,Nat.mod_eq_of_lt hz]
 unfold YO0
 rw [h1,h2,show es.getD i undef=e by rw [List.getD_eq_getElem?_getD,he];rfl]
theorem Xg0 {sz:Nat} {es:List V} {i j k:Nat} {e:V} (hz:2≤sz) (hj:j<sz) (hk:j+k≤e.cells.length) (he:es[i]?=some e):zm0 sz es (i*sz+j) k=some ((e.cells.drop j).take k):=by
 have h1:(i*sz+j)/sz=i:=by rw [Nat.add_comm,Nat.add_mul_div_right _ _ (by omega),Nat.div_eq_of_lt hj,Nat.zero_add]
 have h2:(i*sz+j)%sz=j:=by rw [Nat.add_comm,Nat.add_mul_mod_self_right,Nat.mod_eq_of_lt hj]
 unfold zm0
 rw [show Nat.beq sz 1=false by
  cases hb:Nat.beq sz 1 with
  | false=>rfl
  | true=>have:=Nat.eq_of_beq_eq_true hb;omega]
 simp only [cond_false]
 rw [show Nat.div (i*sz+j) sz=i from h1,show Nat.mod (i*sz+j) sz=j from h2,List.at_eq,he]
 simp only [List.len_eq,List.takeN_eq,List.dropN_eq]
 rw [show Nat.ble (Nat.add j k) e.cells.length=true by rw [Nat.ble_eq];exact hk]
 rfl
theorem qA1 {es:List V} {i:Nat} {e:V} (he:es[i]?=some e):zm0 1 es (i*1) 1=some e.cells:=by
 rw [Nat.mul_one]
 unfold zm0
 change (match List.at es i with
  | none=>none
  | some e=>some e.cells)=_
 rw [List.at_eq,he]
section one
variable {es:List V} {i:Nat}
theorem Ga0 {w:List UInt8} (h:es[i]?=some (.str w)):ldX PP 9 1 es (i*1)∧ldC PP 9 1 es (i*1)∧gS 1 es (i*1) 0=w:=by
 have hg:gS 1 es (i*1) 0=w:=by
  unfold gS
  rw [show i*1=i*1+0 from rfl,yy0 (by omega) h];rfl
 have he:zz0 PP 9 1 es (i*1)=some (.str (gS 1 es (i*1) 0)):=by kernel_rfl
 have hl:load PP Heap.empty 9 (.gptr 1 es (i*1))=some (.str w):=by
  change yY0 PP 9 (zm0 1 es (i*1) 1)=_
  rw [qA1 h]
  kernel_rfl
 refine ⟨?_,?_,hg⟩
 ·unfold ldX;rw [he,hg,hl]
 ·unfold ldC ZB0;rw [he,hg,hl];first | kernel_rfl | rfl
theorem zy1 {z:Int} (h:es[i]?=some (.int .i64 z)):ldX PP 3 1 es (i*1)∧ldC PP 3 1 es (i*1)∧gI 1 es (i*1) 0=z:=by
 have hg:gI 1 es (i*1) 0=z:=by
  unfold gI
  rw [show i*1=i*1+0 from rfl,yy0 (by omega) h];rfl
 have he:zz0 PP 3 1 es (i*1)=some (.int .i64 (gI 1 es (i*1) 0)):=by kernel_rfl
 have hl:load PP Heap.empty 3 (.gptr 1 es (i*1))=some (.int .i64 z):=by
  change yY0 PP 3 (zm0 1 es (i*1) 1)=_
  rw [qA1 h]
  kernel_rfl
 refine ⟨?_,?_,hg⟩
 ·unfold ldX;rw [he,hg,hl]
 ·unfold ldC ZB0;rw [he,hg,hl];first | kernel_rfl | rfl
theorem ldX_b {z:Int} (h:es[i]?=some (.int .u8 z)):ldX PP 5 1 es (i*1)∧ldC PP 5 1 es (i*1)∧gI 1 es (i*1) 0=z:=by
 have hg:gI 1 es (i*1) 0=z:=by
  unfold gI
  rw [show i*1=i*1+0 from rfl,yy0 (by omega) h];rfl
 have he:zz0 PP 5 1 es (i*1)=some (.int .u8 (gI 1 es (i*1) 0)):=by kernel_rfl
 have hl:load PP Heap.empty 5 (.gptr 1 es (i*1))=some (.int .u8 z):=by
  change yY0 PP 5 (zm0 1 es (i*1) 1)=_
  rw [qA1 h]
  kernel_rfl
 refine ⟨?_,?_,hg⟩
 ·unfold ldX;rw [he,hg,hl]
 ·unfold ldC ZB0;rw [he,hg,hl];first | kernel_rfl | rfl
end one
def qC0 (t:Int×List UInt8):V:=.agg [.int .i64 t.1,.str t.2]
structure It where
 k:Int
 w:List UInt8
 a:Int
 ns:List V
def itV (x:It):V:=.agg [.int .i64 x.k,.str x.w,.int .i64 x.a,.osl 1 x.ns]
section two
variable {es:List V} {i:Nat} {t:Int×List UInt8} (h:es[i]?=some (qC0 t))
 include h
theorem Kc0:gI 2 es (i*2) 0=t.1∧gS 2 es (i*2) 1=t.2∧gS 2 es (i*2+1) 0=t.2:=by
 refine ⟨?_,?_,?_⟩
 ·unfold gI;rw [show i*2=i*2+0 from rfl,yy0 (by omega) h];rfl
 ·unfold gS;rw [show i*2=i*2+0 from rfl,yy0 (by omega) h];rfl
 ·unfold gS;rw [yy0 (by omega) h];rfl
theorem YA1:ldX PP 49 2 es (i*2)∧ldC PP 49 2 es (i*2):=by
 obtain ⟨g1,g2,_⟩:=Kc0 h
 have he:zz0 PP 49 2 es (i*2)=some (.agg [.int .i64 (gI 2 es (i*2) 0),.str (gS 2 es (i*2) 1)]):=by kernel_rfl
 have hl:load PP Heap.empty 49 (.gptr 2 es (i*2))=some (.agg [.int .i64 t.1,.str t.2]):=by
  change yY0 PP 49 (zm0 2 es (i*2+0) 2)=_
  rw [Xg0 (by omega) (by omega) (show 0+2≤2 by omega) h]
  kernel_rfl
 constructor
 ·unfold ldX;rw [he,g1,g2,hl]
 ·unfold ldC ZB0;rw [he,g1,g2,hl];first | kernel_rfl | rfl
end two
section four
variable {es:List V} {i:Nat} {t:It} (h:es[i]?=some (itV t))
 include h
theorem it_g:gI 4 es (i*4) 0=t.k∧gS 4 es (i*4) 1=t.w∧gI 4 es (i*4) 2=t.a∧gE 4 es (i*4) 3=t.ns∧gE 4 es (i*4+2+1) 0=t.ns:=by
 refine ⟨?_,?_,?_,?_,?_⟩
 ·unfold gI;rw [show i*4=i*4+0 from rfl,yy0 (by omega) h];rfl
 ·unfold gS;rw [show i*4=i*4+0 from rfl,yy0 (by omega) h];rfl
 ·unfold gI;rw [show i*4=i*4+0 from rfl,yy0 (by omega) h];rfl
 ·unfold gE;rw [show i*4=i*4+0 from rfl,yy0 (by omega) h];rfl
 ·unfold gE;rw [show i*4+2+1=i*4+3 from rfl,yy0 (by omega) h];rfl
theorem zw1:ldX PP 49 4 es (i*4)∧ldC PP 59 4 es (i*4)∧ldX PP 3 4 es (i*4):=by
 obtain ⟨g1,g2,g3,g4,_⟩:=it_g h
 have c4:zm0 4 es (i*4+0) 4=some [.int .i64 t.k,.str t.w,.int .i64 t.a,.osl 1 t.ns]:=by rw [Xg0 (by omega) (by omega) (show 0+4≤4 by omega) h];rfl
 have c2:zm0 4 es (i*4+0) 2=some [.int .i64 t.k,.str t.w]:=by rw [Xg0 (by omega) (by omega) (show 0+2≤4 by omega) h];rfl
 have c1:zm0 4 es (i*4+0) 1=some [.int .i64 t.k]:=by rw [Xg0 (by omega) (by omega) (show 0+1≤4 by omega) h];rfl
 refine ⟨?_,?_,?_⟩
 ·have he:zz0 PP 49 4 es (i*4)=some (.agg [.int .i64 (gI 4 es (i*4) 0),.str (gS 4 es (i*4) 1)]):=by kernel_rfl
  unfold ldX;rw [he,g1,g2]
  change yY0 PP 49 (zm0 4 es (i*4+0) 2)=_
  rw [c2];first | kernel_rfl | rfl
 ·have he:zz0 PP 59 4 es (i*4)=some (.agg [.int .i64 (gI 4 es (i*4) 0),.str (gS 4 es (i*4) 1),.int .i64 (gI 4 es (i*4) 2),.osl 1 (gE 4 es (i*4) 3)]):=by kernel_rfl
  have hl:load PP Heap.empty 59 (.gptr 4 es (i*4))=some (.agg [.int .i64 t.k,.str t.w,.int .i64 t.a,.osl 1 t.ns]):=by
   change yY0 PP 59 (zm0 4 es (i*4+0) 4)=_
   rw [c4];first | kernel_rfl | rfl
  unfold ldC ZB0;rw [he,g1,g2,g3,g4,hl];first | kernel_rfl | rfl
 ·have he:zz0 PP 3 4 es (i*4)=some (.int .i64 (gI 4 es (i*4) 0)):=by kernel_rfl
  unfold ldX;rw [he,g1]
  change yY0 PP 3 (zm0 4 es (i*4+0) 1)=_
  rw [c1];first | kernel_rfl | rfl
end four
theorem KL0 (l:List (Int×List UInt8)):GndR (l.map qC0):=fun e he=>by
 obtain ⟨t,_,rfl⟩:=List.mem_map.1 he
 rfl
theorem QR0 (l:List It):GndR (l.map itV):=fun e he=>by
 obtain ⟨t,_,rfl⟩:=List.mem_map.1 he
 rfl
theorem Jc0 (l:List Int):GndR (l.map (V.int .i64)):=fun e he=>by
 obtain ⟨t,_,rfl⟩:=List.mem_map.1 he
 rfl
theorem XB0 {α:Type} {f:α→V} {l:List α} {i:Nat} (h:i<l.length):(l.map f)[i]?=some (f l[i]):=by rw [List.getElem?_map,List.getElem?_eq_getElem h];rfl
/-- THE PROGRAM'S LEXER: what calls come to. -/
noncomputable def rWB (a:List UInt8×Bool):Res:=.ret (.tup [.str a.1,.bool a.2]) Heap.empty
noncomputable def rRu (fr:Fr) (a:List UInt8×Nat×Int):Res:=.code (.exit 0) ((base fr.fn fr.n).on [(0,.str a.1),(1,.func (.func a.2.1) [] []),(5,.int .i64 a.2.2)]) Heap.empty
noncomputable def rCr (fr:Fr) (a:List UInt8×Nat×Int):Res:=.code (.exit 0) ((base fr.fn fr.n).on [(0,.func (.func a.2.1) [] []),(1,.str a.1),(5,.int .i64 a.2.2)]) Heap.empty
noncomputable def rNt (fr:Fr) (a:List UInt8×Int):Res:=.code .ret ((base fr.fn fr.n).on [(0,.str a.1),(2,.int .i64 a.2)]) Heap.empty
noncomputable def rCk (fr:Fr) (b:Bool) (a:Bool×List UInt8×Int×List UInt8×Nat):Res:=Bool.rec (.code .ret ((base fr.fn fr.n).on [(0,.str a.2.1),(2,.int .i64 a.2.2.1)]) (hp [.siter a.2.2.2.1 a.2.2.2.2])) (.code (.exit 0) ((base fr.fn fr.n).on [(0,.str a.2.1)]) (hp [.siter a.2.2.2.1 a.2.2.2.2])) b
noncomputable abbrev lxO (s:List UInt8) (a:Int) (o:V) (i:Bool) (e:Int):Obj:=.row 0 94 5 0 (some 1) [.agg [.str s,.int .i64 a,o,.bool i,.int .u16 e]]
noncomputable abbrev tm93:T V:=mkT 13 [(0,V.nils),(1,V.func (Fn.func 94) [] [V.ptr 1 0 0]),(2,V.ptr 2 0 0),(3,V.tup []),(4,V.nils),(5,V.tup []),(6,V.func (Fn.func 94) [] [V.ptr 1 0 0]),(7,V.tup []),(8,V.tup []),(9,V.tup []),(10,V.tup []),(11,V.tup []),(12,V.tup [])]
noncomputable abbrev lpT:Obj:=.loop .ready none 93 13 tm93 [7] (rAs PP 93 0) (rBd PP 93 0) 3
noncomputable abbrev yt0:V:=.osl 2 [.agg [.int .i64 1,.func (.func 129) [] []],.agg [.int .i64 2,.func (.func 132) [] []],.agg [.int .i64 3,.func (.func 133) [] []],.agg [.int .i64 4,.func (.func 134) [] []],.agg [.int .i64 5,.func (.func 139) [] []],.agg [.int .i64 12,.func (.func 140) [] []],.agg [.int .i64 6,.func (.func 141) [] []],.agg [.int .i64 7,.func (.func 142) [] []],.agg [.int .i64 13,.func (.func 144) [] []]]
noncomputable abbrev hpA (x:Obj) (out:V) (r:List Obj):Heap:=hp (x::.row 0 90 1 0 (some 1) [.ptr 0 0 0]::.row 0 45 1 0 (some 1) [out]::.defs::lpT::.row 0 118 1 0 (some 1) [yt0]::r)
structure Lt where
 k:Int
 w:List UInt8
 s:List UInt8
 a:Int
 z:Bool
 v:Nat
 n:Nat
 l:List V
 i:Bool
 e:Int
noncomputable def rLt (z:Bool) (a:Lt):Res:=Bool.rec (.ret (.agg [.int .i64 a.k,.str a.w]) (hp [lxO a.s a.a (.sl 1 a.v 0 a.n none) a.i a.e,.row a.v 3 1 0 none a.l])) (.ret (.agg [.int .i64 a.k,.str a.w]) (hp [lxO a.s a.a .nils a.i a.e])) z
structure La where
 s:List UInt8
 a:Int
 z:Bool
 v:Nat
 n:Nat
 o:List V
 i:Bool
 e:Int
 w:Nat
 m:Nat
 l:List V
 r:Bool
noncomputable abbrev hpB (x:Obj) (out:V) (r:List Obj):Heap:=hp (x::.row 0 90 1 0 (some 1) [.ptr 0 0 0]::.row 0 45 1 0 (some 1) [out]::.defs::lpT::.row 0 118 1 0 (some 1) []::r)
noncomputable abbrev hpLa (z:Bool) (a:La):Heap:=Bool.rec (hpB (lxO a.s a.a (.sl 7 a.v 0 a.n none) a.i a.e) (.sl 6 a.w 0 a.m none) [.row a.w 49 2 0 none a.l,.row a.v 3 1 0 none a.o]) (hpB (lxO a.s a.a .nils a.i a.e) (.sl 6 a.w 0 a.m none) [.row a.w 49 2 0 none a.l]) z
noncomputable def rLa (fr:Fr) (r z:Bool) (a:La):Res:=Bool.rec (.code (.exit 0) ((base fr.fn fr.n).on [(0,.func (.yield 4) [] []),(1,.ptr 1 0 0)]) (hpLa z a)) (.code .ret ((base fr.fn fr.n).on [(0,.func (.yield 4) [] []),(1,.ptr 1 0 0)]) (hpLa z a)) r
noncomputable def rLT (a:List V×Int×Int):Res:=.ret (.tup [.osl 2 a.1,.int .u16 a.2.1,.int .i64 a.2.2]) Heap.empty
structure Ea where
 es:List V
 b1:Bool
 v1:Nat
 n1:Nat
 l1:List V
 b2:Bool
 v2:Nat
 n2:Nat
 l2:List V
noncomputable abbrev tm30 (es:List V):T V:=mkT 53 [(0,.osl 2 es),(1,.tup []),(2,.nils),(3,.nils),(4,.ptr 0 0 0),(5,.ptr 1 0 0),(6,.tup []),(7,.tup []),(8,.tup []),(9,.osl 2 es),(10,.func (.func 100) [] [.ptr 2 0 0]),(11,.tup []),(12,.tup []),(13,.tup []),(14,.tup []),(15,.tup []),(16,.tup []),(17,.tup []),(18,.tup []),(19,.tup []),(20,.tup []),(21,.tup []),(22,.tup []),(23,.tup []),(24,.tup []),(25,.tup []),(26,.tup []),(27,.tup []),(28,.tup []),(29,.tup []),(30,.tup []),(31,.tup []),(32,.tup []),(33,.tup []),(34,.tup []),(35,.tup []),(36,.tup []),(37,.tup []),(38,.tup []),(39,.tup []),(40,.tup []),(41,.tup []),(42,.tup []),(43,.tup []),(44,.tup []),(45,.tup []),(46,.tup []),(47,.tup []),(48,.tup []),(49,.tup []),(50,.tup []),(51,.tup []),(52,.tup [])]
noncomputable abbrev lpE (es:List V):Obj:=.loop .ready none 30 53 (tm30 es) [11,12] (rAs PP 30 0) (rBd PP 30 0) 3
noncomputable abbrev tm30s (es:List V):T V:=T.set undef (V.func (Fn.func 100) [] [V.ptr 2 0 0]) (T.set undef (V.osl 2 es) (T.set undef (V.ptr 1 0 0) (T.set undef (V.ptr 0 0 0) (T.set undef V.nils (T.set undef V.nils (yu0 [V.osl 2 es] 0 (yj0 6)) 2) 3) 4) 5) 9) 10
noncomputable abbrev lpE0 (es:List V):Obj:=.loop .ready none 30 53 (tm30s es) [11,12] (rAs PP 30 0) (rBd PP 30 0) 3
noncomputable abbrev hpE (es:List V) (lv ov:V) (r:List Obj):Heap:=hp (.row 0 42 1 0 (some 1) [lv]::.row 0 28 1 0 (some 1) [ov]::.row 0 45 1 0 (some 1) [.osl 2 es]::.defs::lpE es::r)
noncomputable abbrev hpEa (b1 b2:Bool) (a:Ea):Heap:=Bool.rec (Bool.rec (hpE a.es .nils .nils []) (hpE a.es .nils (.sl 5 a.v2 0 a.n2 none) [QV0 a.v2 a.l2]) b2) (Bool.rec (hpE a.es (.sl 5 a.v1 0 a.n1 none) .nils [strR a.v1 a.l1]) (hpE a.es (.sl 5 a.v1 0 a.n1 none) (.sl 6 a.v2 0 a.n2 none) [strR a.v1 a.l1,QV0 a.v2 a.l2]) b2) b1
noncomputable def rEa (fr:Fr) (b1 b2:Bool) (a:Ea):Res:=.code (.exit 0) ((base fr.fn fr.n).on [(0,.func (.yield 4) [] [])]) (hpEa b1 b2 a)
noncomputable def rDp (fr:Fr) (a:List V×Int×List UInt8×List UInt8):Res:=.code (.exit 0) ((base fr.fn fr.n).on [(1,.osl 1 a.1),(5,.int .i64 a.2.1),(6,.str a.2.2.1),(7,.str a.2.2.2)]) Heap.empty
structure PlX where
 I:Task→PR Int Int
 O:Task→PR Bool Int
 W:Task→PR (List UInt8) Int
 WB:Task→PR (List UInt8×Bool) Int
 Lt:Task→PR Lt Int
 La:Task→PR La Int
 LT:Task→PR (List V×Int×Int) Int
 IT:Task→PR (List V×List V) Int
 PG:Task→PR (Nd×Int×Int) Int
 Ea:Task→PR Ea Int
 Dp:Task→PR (List V×Int×List UInt8×List UInt8) Int
 Ru:Task→PR (List UInt8×Nat×Int) Int
 Cr:Task→PR (List UInt8×Nat×Int) Int
 J:Task→PR (List UInt8×Int) Int
 J2:Task→PR (Bool×List UInt8×Int×Int) Int
 Nt:Task→PR (List UInt8×Int) Int
 Ck:Task→PR (Bool×List UInt8×Int×List UInt8×Nat) Int
noncomputable def tbLK (X:PlX) (t:Task) (k:Nat):Option Ent :=
 match k with
 | 1=>some (ent (X.I t) rI qN)
 | 2=>some (ent (X.O t) rO qN)
 | 3=>some (ent (X.W t) rW qN)
 | 4=>some (ent (X.WB t) rWB qN)
 | 5=>some (QN0 (X.Lt t) (fun a=>a.z) rLt qN)
 | 6=>some (ent (X.LT t) rLT qN)
 | 7=>some (ent (X.IT t) rIT qN)
 | 8=>some (ent (X.PG t) rPG qN)
 | _=>none
def kindL:T Nat:=(.n (.n (.n (.n (.n .e 0 (.n (.n (.n .e 3 .e) 0 .e) 0 (.n (.n .e 1 .e) 0 .e))) 0 (.n (.n (.n (.n .e 1 .e) 0 (.n .e 2 .e)) 0 (.n (.n .e 1 .e) 0 .e)) 0 .e)) 0 (.n (.n (.n (.n (.n .e 2 .e) 0 .e) 0 .e) 0 (.n .e 0 (.n (.n .e 1 .e) 0 .e))) 0 (.n (.n (.n (.n .e 1 .e) 0 .e) 0 (.n (.n .e 4 .e) 0 .e)) 0 .e))) 0 (.n (.n (.n (.n (.n (.n .e 1 .e) 0 .e) 0 .e) 8 (.n (.n (.n .e 1 .e) 0 .e) 0 .e)) 0 (.n (.n (.n (.n .e 2 .e) 0 .e) 0 (.n (.n .e 3 .e) 0 .e)) 0 .e)) 0 (.n (.n (.n (.n (.n .e 1 .e) 0 .e) 0 .e) 0 .e) 0 (.n (.n (.n (.n .e 1 .e) 0 .e) 0 (.n (.n .e 2 .e) 0 .e)) 6 (.n (.n (.n .e 1 .e) 0 .e) 0 .e))))) 0 (.n (.n (.n (.n (.n .e 0 (.n .e 5 .e)) 0 (.n (.n (.n .e 1 .e) 0 .e) 0 .e)) 0 (.n (.n (.n (.n .e 1 .e) 0 .e) 0 (.n (.n .e 2 .e) 0 .e)) 0 .e)) 0 (.n (.n (.n (.n (.n .e 1 .e) 0 .e) 0 .e) 0 .e) 0 (.n (.n (.n (.n .e 1 .e) 0 .e) 0 (.n (.n .e 2 .e) 0 .e)) 0 (.n (.n .e 2 .e) 0 .e)))) 0 (.n (.n (.n (.n (.n (.n .e 1 .e) 2 .e) 0 (.n .e 5 .e)) 0 (.n .e 0 (.n (.n .e 1 .e) 0 .e))) 0 (.n (.n (.n (.n .e 1 .e) 0 .e) 0 (.n (.n .e 3 .e) 0 .e)) 0 .e)) 0 (.n (.n (.n (.n (.n .e 1 .e) 0 .e) 0 .e) 0 (.n .e 0 (.n (.n .e 2 .e) 0 .e))) 8 (.n (.n (.n (.n .e 1 .e) 0 .e) 0 (.n (.n .e 1 .e) 0 .e)) 7 (.n .e 1 .e))))))
def kindLL:T Nat:=(.n (.n .e 0 (.n (.n (.n .e 0 (.n (.n (.n .e 4 .e) 0 .e) 0 .e)) 0 .e) 0 (.n (.n (.n (.n (.n .e 3 .e) 0 .e) 0 .e) 0 .e) 0 .e))) 0 (.n (.n .e 0 (.n (.n (.n (.n (.n .e 5 .e) 0 .e) 0 (.n .e 8 .e)) 0 .e) 0 .e)) 0 (.n (.n (.n (.n (.n (.n .e 1 .e) 0 .e) 0 .e) 0 .e) 0 .e) 9 (.n .e 0 (.n (.n .e 0 (.n (.n .e 2 .e) 0 .e)) 0 (.n (.n .e 7 .e) 6 .e))))))
noncomputable def tbLL (X:PlX) (t:Task) (fr:Fr):Option Ent :=
 match T.get 0 kindLL fr.fn with
 | 1=>some (ent (X.Ru t) (rRu fr) qN)
 | 2=>some (ent (X.Cr t) (rCr fr) qN)
 | 3=>some (ent (X.J t) (rJ fr) qN)
 | 4=>some (QN0 (X.J2 t) (fun a=>a.1) (rJ2 fr) qN)
 | 5=>some (ent (X.Nt t) (rNt fr) qN)
 | 7=>some ⟨_,_,X.La t,fun a=>a.r,fun a=>a.z,rLa fr,qN⟩
 | 8=>some ⟨_,_,X.Ea t,fun a=>a.b1,fun a=>a.b2,rEa fr,qN⟩
 | 9=>some (ent (X.Dp t) (rDp fr) qN)
 | 6=>some (QN0 (X.Ck t) (fun a=>a.1) (rCk fr) qN)
 | _=>none
noncomputable def qp0 (X:PlX) (t:Task):Option Ent :=
 match t with
 | .call f _ _=>tbLK X t (T.get 0 kindL f)
 | .code c fr _=>(match c with
  | .loop _=>tbLL X t fr
  | _=>none)
 | _=>none
theorem Kt1 (X:PlX) (ih:Task→Res) {β:Type} (bot:β) (k:Res→β) (c:Int):evN PP EP CP (qp0 X) ih bot (.call 131 [.int .u8 c] Heap.empty) k =
 bif decide (0≤QP0 (UInt8.ofNat (Int.toNat c)) [32,9,10,13] 0) then (k (.ret (.bool true) Heap.empty))
 else (k (.ret (.bool false) Heap.empty)):=by kernel_rfl
theorem jB1 (X:PlX) (ih:Task→Res) {β:Type} (bot:β) (k:Res→β) (s:List UInt8):evN PP EP CP (qp0 X) ih bot (.call 174 [.func (.func 173) [] [],.str s] Heap.empty) k =
 PR.bnd bot (X.13 (.code (.loop (lpB PP 174 0)) ((base 174 20).on [(0,(.func (.func 173) [] [])),(1,(.str (s))),(5,(.int .i64 0))]) Heap.empty)) (fun a0 =>
 k (.ret (.int .i64 (a0.2.2)) Heap.empty))
 (fun e0=>k (qN e0)):=by kernel_rfl
theorem qK1 (X:PlX) (ih:Task→Res) {β:Type} (bot:β) (k:Res→β) (s:List UInt8) (n:Int):evN PP EP CP (qp0 X) ih bot (.code (.loop (lpB PP 174 0)) ((base 174 20).on [(0,.func (.func 173) [] []),(1,.str s),(5,.int .i64 n)]) Heap.empty) k =
 bif decide (n<(↑(List.length s):Int)) then (nX bot (n) (List.length s) (PR.bnd bot (X.2 (.call 173 [(.int .u8 (qO0 s n))] Heap.empty)) (fun a2 =>
 bif a2 then (nI bot (n+1) (PR.bnd bot (X.13 (.code (.loop (lpB PP 174 0)) ((base 174 20).on [(0,(.func (.func 173) [] [])),(1,(.str (s))),(5,(.int .i64 (n+1)))]) Heap.empty)) (fun a5 =>
 k (.code (.exit 0) ((base 174 20).on [(0,(.func (.func (a5.2.1)) [] [])),(1,(.str (a5.1))),(5,(.int .i64 (a5.2.2)))]) Heap.empty))
 (fun e5=>k (qN e5))))
 else (k (.code (.exit 0) ((base 174 20).on [(0,(.func (.func 173) [] [])),(1,(.str (s))),(5,(.int .i64 (n)))]) Heap.empty)))
 (fun _=>bot)))
 else (k (.code (.exit 0) ((base 174 20).on [(0,(.func (.func 173) [] [])),(1,(.str (s))),(5,(.int .i64 (n)))]) Heap.empty)):=by kernel_rfl
theorem KH1 (X:PlX) (ih:Task→Res) {β:Type} (bot:β) (k:Res→β) (s:List UInt8):evN PP EP CP (qp0 X) ih bot (.call 130 [.str s,.func (.func 131) [] []] Heap.empty) k =
 PR.bnd bot (X.12 (.code (.loop (lpB PP 130 0)) ((base 130 20).on [(0,(.str (s))),(1,(.func (.func 131) [] [])),(5,(.int .i64 0))]) Heap.empty)) (fun a0 =>
 k (.ret (.int .i64 (a0.2.2)) Heap.empty))
 (fun e0=>k (qN e0)):=by kernel_rfl
theorem KI1 (X:PlX) (ih:Task→Res) {β:Type} (bot:β) (k:Res→β) (s:List UInt8) (n:Int):evN PP EP CP (qp0 X) ih bot (.code (.loop (lpB PP 130 0)) ((base 130 20).on [(0,.str s),(1,.func (.func 131) [] []),(5,.int .i64 n)]) Heap.empty) k =
 bif decide (n<(↑(List.length s):Int)) then (nX bot (n) (List.length s) (PR.bnd bot (X.2 (.call 131 [(.int .u8 (qO0 s n))] Heap.empty)) (fun a2 =>
 bif a2 then (nI bot (n+1) (PR.bnd bot (X.12 (.code (.loop (lpB PP 130 0)) ((base 130 20).on [(0,(.str (s))),(1,(.func (.func 131) [] [])),(5,(.int .i64 (n+1)))]) Heap.empty)) (fun a5 =>
 k (.code (.exit 0) ((base 130 20).on [(0,(.str (a5.1))),(1,(.func (.func (a5.2.1)) [] [])),(5,(.int .i64 (a5.2.2)))]) Heap.empty))
 (fun e5=>k (qN e5))))
 else (k (.code (.exit 0) ((base 130 20).on [(0,(.str (s))),(1,(.func (.func 131) [] [])),(5,(.int .i64 (n)))]) Heap.empty)))
 (fun _=>bot)))
 else (k (.code (.exit 0) ((base 130 20).on [(0,(.str (s))),(1,(.func (.func 131) [] [])),(5,(.int .i64 (n)))]) Heap.empty)):=by kernel_rfl
theorem jH1 (X:PlX) (ih:Task→Res) {β:Type} (bot:β) (k:Res→β) (s:List UInt8):evN PP EP CP (qp0 X) ih bot (.call 133 [.str s] Heap.empty) k =
 PR.bnd bot (X.1 (.call 157 [(.str (s))] Heap.empty)) (fun a0 =>
 PR.bnd bot (X.14 (.code (.loop (lpB PP 133 0)) ((base 133 31).on [(0,(.str (s))),(3,(.int .i64 (a0)))]) Heap.empty)) (fun a1 =>
 k (.ret (.int .i64 (a1.2)) Heap.empty))
 (fun e1=>k (qN e1)))
 (fun _=>bot):=by kernel_rfl
theorem jI1 (X:PlX) (ih:Task→Res) {β:Type} (bot:β) (k:Res→β) (s:List UInt8) (n:Int):evN PP EP CP (qp0 X) ih bot (.code (.loop (lpB PP 133 0)) ((base 133 31).on [(0,.str s),(3,.int .i64 n)]) Heap.empty) k =
 bif decide (0<n) then (need bot (((0:Int)≤(n))∧((n)≤((↑(List.length s):Int)))) (jn (PR.bnd bot (X.1 (.call 157 [(.str (List.drop (Int.toNat n) s))] Heap.empty)) (fun a5 =>
 k (.code (.exit 0) ((base 133 31).on [(0,(.str (s))),(3,(.int .i64 (n)))]) Heap.empty))
 (fun _=>bot))
 (fun j1:β=>bif decide (2≤(↑(List.length (List.drop (Int.toNat n) s)):Int)) then (need bot (((0:Int)≤2)∧((2:Int)≤((↑(List.length (List.drop (Int.toNat n) s)):Int)))) (bif decide (List.take 2 (List.drop (Int.toNat n) s)=[58,58]) then (need bot (((0:Int)≤2)∧((2:Int)≤((↑(List.length (List.drop (Int.toNat n) s)):Int)))) (PR.bnd bot (X.1 (.call 157 [(.str (List.drop 2 (List.drop (Int.toNat n) s)))] Heap.empty)) (fun a6 =>
 bif decide (a6=0) then (k (.code (.exit 0) ((base 133 31).on [(0,(.str (s))),(3,(.int .i64 (n)))]) Heap.empty))
 else (nI bot (2+a6) (nI bot (n+(2+a6)) (PR.bnd bot (X.14 (.code (.loop (lpB PP 133 0)) ((base 133 31).on [(0,(.str (s))),(3,(.int .i64 (n+(2+a6))))]) Heap.empty)) (fun a10 =>
 k (.code (.exit 0) ((base 133 31).on [(0,(.str (a10.1))),(3,(.int .i64 (a10.2)))]) Heap.empty))
 (fun e10=>k (qN e10))))))
 (fun _=>bot)))
 else (j1)))
 else (j1))))
 else (k (.code (.exit 0) ((base 133 31).on [(0,(.str (s))),(3,(.int .i64 (n)))]) Heap.empty)):=by kernel_rfl
theorem KA1 (X:PlX) (ih:Task→Res) {β:Type} (bot:β) (k:Res→β) (s:List UInt8):evN PP EP CP (qp0 X) ih bot (.call 145 [.str s] Heap.empty) k =
 PR.bnd bot (X.15 (.code (.loop (lpB PP 145 0)) ((base 145 31).on [(0,(.str (s))),(3,(.int .i64 0))]) Heap.empty)) (fun a0 =>
 bif a0.1 then (k (.ret (.int .i64 (a0.2.2.1)) Heap.empty))
 else (k (.ret (.int .i64 (a0.2.2.2)) Heap.empty)))
 (fun e0=>k (qN e0)):=by kernel_rfl
theorem KB1 (X:PlX) (ih:Task→Res) {β:Type} (bot:β) (k:Res→β) (s:List UInt8) (n:Int):evN PP EP CP (qp0 X) ih bot (.code (.loop (lpB PP 145 0)) ((base 145 31).on [(0,.str s),(3,.int .i64 n)]) Heap.empty) k =
 bif decide (n<(↑(List.length s):Int)) then (need bot (((0:Int)≤(n))∧((n)≤((↑(List.length s):Int)))) (PR.bnd bot (X.1 (.call 178 [(.str (List.drop (Int.toNat n) s)),(.str [34,92])] Heap.empty)) (fun a2 =>
 bif decide (a2<0) then (k (.code .ret ((base 145 31).on [(0,(.str (s))),(2,(.int .i64 ((↑(List.length s):Int)))),(3,(.int .i64 (n)))]) Heap.empty))
 else (nI bot (n+a2) (need bot (((0:Int)≤(n+a2))∧((n+a2)≤((↑(List.length s):Int)))) (PR.bnd bot (X.1 (.call 179 [(.str (List.drop (Int.toNat (n+a2)) s))] Heap.empty)) (fun a6 =>
 bif decide (a6=0) then (k (.code .ret ((base 145 31).on [(0,(.str (s))),(2,(.int .i64 (n+a2))),(3,(.int .i64 (n+a2)))]) Heap.empty))
 else (nI bot (n+a2+a6) (PR.bnd bot (X.15 (.code (.loop (lpB PP 145 0)) ((base 145 31).on [(0,(.str (s))),(3,(.int .i64 (n+a2+a6)))]) Heap.empty)) (fun a9 =>
 bif a9.1 then (k (.code (.exit 0) ((base 145 31).on [(0,(.str (a9.2.1))),(3,(.int .i64 (a9.2.2.1)))]) Heap.empty))
 else (k (.code .ret ((base 145 31).on [(0,(.str (a9.2.1))),(2,(.int .i64 (a9.2.2.2))),(3,(.int .i64 (a9.2.2.1)))]) Heap.empty)))
 (fun e9=>k (qN e9)))))
 (fun _=>bot)))))
 (fun _=>bot)))
 else (k (.code (.exit 0) ((base 145 31).on [(0,(.str (s))),(3,(.int .i64 (n)))]) Heap.empty)):=by kernel_rfl
theorem Ku1 (X:PlX) (ih:Task→Res) {β:Type} (bot:β) (k:Res→β) (s:List UInt8):evN PP EP CP (qp0 X) ih bot (.call 62 [.str s] Heap.empty) k =
 PR.bnd bot (X.17 (.code (.loop (lpB PP 62 0)) ((base 62 21).on [(0,(.str (s))),(6,(.iter 0))]) (hp [.siter (s) 0]))) (fun a0 =>
 bif a0.1 then (k (.ret (.int .i64 (-1)) Heap.empty))
 else (k (.ret (.int .i64 (a0.2.2.1)) Heap.empty)))
 (fun e0=>k (qN e0)):=by kernel_rfl
theorem jA1 (X:PlX) (ih:Task→Res) {β:Type} (bot:β) (k:Res→β) (s:List UInt8) (n:Nat):evN PP EP CP (qp0 X) ih bot (.code (.loop (lpB PP 62 0)) ((base 62 21).on [(0,.str s),(6,.iter 0)]) (hp [.siter s n])) k =
 bif decide (n<List.length s) then (jn (PR.bnd bot (X.17 (.code (.loop (lpB PP 62 0)) ((base 62 21).on [(0,(.str (s))),(6,(.iter 0))]) (hp [.siter (s) (n+Jl0 s n)]))) (fun a5 =>
 bif a5.1 then (k (.code (.exit 0) ((base 62 21).on [(0,(.str (a5.2.1)))]) (hp [.siter (a5.2.2.2.1) (a5.2.2.2.2)])))
 else (k (.code .ret ((base 62 21).on [(0,(.str (a5.2.1))),(2,(.int .i64 (a5.2.2.1)))]) (hp [.siter (a5.2.2.2.1) (a5.2.2.2.2)]))))
 (fun e5=>k (qN e5)))
 (fun j1:β=>bif decide ((↑(GJ0 s n):Int)=65533) then (need bot (((0:Int)≤((↑n:Int)))∧(((↑n:Int))≤((↑(List.length s):Int)))) (PR.bnd bot (X.2 (.call 92 [(.str (List.drop n s)),(.str [239,191,189])] Heap.empty)) (fun a3 =>
 bif a3 then (j1)
 else (k (.code .ret ((base 62 21).on [(0,(.str (s))),(2,(.int .i64 ((↑n:Int))))]) (hp [.siter (s) (n+Jl0 s n)]))))
 (fun _=>bot)))
 else (j1)))
 else (k (.code (.exit 0) ((base 62 21).on [(0,(.str (s)))]) (hp [.siter (s) (n)]))):=by kernel_rfl
theorem qN1 (X:PlX) (ih:Task→Res) {β:Type} (bot:β) (k:Res→β) (s t:List UInt8):evN PP EP CP (qp0 X) ih bot (.call 92 [.str s,.str t] Heap.empty) k =
 bif decide ((↑(List.length t):Int)≤(↑(List.length s):Int)) then (need bot (((0:Int)≤((↑(List.length t):Int)))∧(((↑(List.length t):Int))≤((↑(List.length s):Int)))) (bif decide (List.take (List.length t) s=t) then (k (.ret (.bool true) Heap.empty))
 else (k (.ret (.bool false) Heap.empty))))
 else (k (.ret (.bool false) Heap.empty)):=by kernel_rfl
theorem jF1 (X:PlX) (ih:Task→Res) {β:Type} (bot:β) (k:Res→β) (s:List UInt8):evN PP EP CP (qp0 X) ih bot (.call 141 [.str s] Heap.empty) k =
 PR.bnd bot (X.1 (.call 174 [(.func (.func 173) [] []),(.str (s))] Heap.empty)) (fun a0 =>
 jn (bif decide (a0=0) then (k (.ret (.int .i64 0) Heap.empty))
 else (need bot (((0:Int)≤(a0))∧((a0)≤((↑(List.length s):Int)))) (PR.bnd bot (X.1 (.call 175 [(.str (List.drop (Int.toNat a0) s))] Heap.empty)) (fun a6 =>
 nI bot (a0+a6) (k (.ret (.int .i64 (a0+a6)) Heap.empty)))
 (fun _=>bot))))
 (fun j1:β=>bif decide (a0<(↑(List.length s):Int)) then (nX bot (a0) (List.length s) (bif decide (qO0 s a0=46) then (nI bot (a0+1) (need bot (((0:Int)≤(a0+1))∧((a0+1)≤((↑(List.length s):Int)))) (PR.bnd bot (X.1 (.call 174 [(.func (.func 173) [] []),(.str (List.drop (Int.toNat (a0+1)) s))] Heap.empty)) (fun a6 =>
 nI bot (a0+a6) (bif decide (a0+a6=0) then (k (.ret (.int .i64 0) Heap.empty))
 else (nI bot (1+a6) (nI bot (a0+(1+a6)) (bif decide (a0+(1+a6)=0) then (k (.ret (.int .i64 0) Heap.empty))
 else (need bot (((0:Int)≤(a0+(1+a6)))∧((a0+(1+a6))≤((↑(List.length s):Int)))) (PR.bnd bot (X.1 (.call 175 [(.str (List.drop (Int.toNat (a0+(1+a6))) s))] Heap.empty)) (fun a13 =>
 nI bot (a0+(1+a6)+a13) (k (.ret (.int .i64 (a0+(1+a6)+a13)) Heap.empty)))
 (fun _=>bot))))))))
 (fun _=>bot))))
 else (j1)))
 else (j1)))
 (fun _=>bot):=by kernel_rfl
theorem jC1 (X:PlX) (ih:Task→Res) {β:Type} (bot:β) (k:Res→β) (s:List UInt8):evN PP EP CP (qp0 X) ih bot (.call 179 [.str s] Heap.empty) k =
 bif decide ((↑(List.length s):Int)<2) then (k (.ret (.int .i64 0) Heap.empty))
 else (nX bot 0 (List.length s) (bif !decide (qO0 s 0=92) then (k (.ret (.int .i64 0) Heap.empty))
 else (nX bot 1 (List.length s) (bif decide (0≤QP0 (UInt8.ofNat (Int.toNat (qO0 s 1))) [34,92,47,98,102,110,114,116] 0) then (k (.ret (.int .i64 2) Heap.empty))
 else (nX bot 1 (List.length s) (bif decide (qO0 s 1=117) then (need bot (((0:Int)≤2)∧(((2:Int)≤(min (↑(List.length s):Int) 6))∧((min (↑(List.length s):Int) 6)≤((↑(List.length s):Int))))) (PR.bnd bot (X.1 (.call 174 [(.func (.func 199) [] []),(.str (List.drop 2 (List.take (Int.toNat (min (↑(List.length s):Int) 6)) s)))] Heap.empty)) (fun a8 =>
 bif decide (a8=4) then (k (.ret (.int .i64 6) Heap.empty))
 else (k (.ret (.int .i64 0) Heap.empty)))
 (fun _=>bot)))
 else (k (.ret (.int .i64 0) Heap.empty)))))))):=by kernel_rfl
theorem el_lt1 (X:PlX) (ih:Task→Res) {β:Type} (bot:β) (k:Res→β) (s:List UInt8):evN PP EP CP (qp0 X) ih bot (.call 129 [.str s] Heap.empty) k =
 PR.bnd bot (X.1 (.call 130 [(.str (s)),(.func (.func 131) [] [])] Heap.empty)) (fun a0 =>
 k (.ret (.int .i64 (a0)) Heap.empty))
 (fun _=>bot):=by kernel_rfl
theorem el_lt2 (X:PlX) (ih:Task→Res) {β:Type} (bot:β) (k:Res→β) (s:List UInt8):evN PP EP CP (qp0 X) ih bot (.call 134 [.str s] Heap.empty) k =
 PR.bnd bot (X.1 (.call 135 [(.str (s)),(.int .u8 46),(.func (.func 136) [] [])] Heap.empty)) (fun a0 =>
 k (.ret (.int .i64 (a0)) Heap.empty))
 (fun _=>bot):=by kernel_rfl
theorem el_lt3 (X:PlX) (ih:Task→Res) {β:Type} (bot:β) (k:Res→β) (s:List UInt8):evN PP EP CP (qp0 X) ih bot (.call 139 [.str s] Heap.empty) k =
 PR.bnd bot (X.1 (.call 135 [(.str (s)),(.int .u8 36),(.func (.func 133) [] [])] Heap.empty)) (fun a0 =>
 k (.ret (.int .i64 (a0)) Heap.empty))
 (fun _=>bot):=by kernel_rfl
theorem el_lt4 (X:PlX) (ih:Task→Res) {β:Type} (bot:β) (k:Res→β) (s:List UInt8):evN PP EP CP (qp0 X) ih bot (.call 140 [.str s] Heap.empty) k =
 PR.bnd bot (X.1 (.call 135 [(.str (s)),(.int .u8 64),(.func (.func 138) [] [])] Heap.empty)) (fun a0 =>
 k (.ret (.int .i64 (a0)) Heap.empty))
 (fun _=>bot):=by kernel_rfl
theorem jG1 (X:PlX) (ih:Task→Res) {β:Type} (bot:β) (k:Res→β) (s:List UInt8):evN PP EP CP (qp0 X) ih bot (.call 142 [.str s] Heap.empty) k =
 jn (nI bot ((↑(List.length s):Int)-(↑(List.length s):Int)) (k (.ret (.int .i64 ((↑(List.length s):Int)-(↑(List.length s):Int))) Heap.empty)))
 (fun j1:β=>bif decide (1≤(↑(List.length s):Int)) then (need bot (((0:Int)≤1)∧((1:Int)≤((↑(List.length s):Int)))) (bif decide (List.take 1 s=[34]) then (need bot (((0:Int)≤1)∧((1:Int)≤((↑(List.length s):Int)))) (nI bot ((↑(List.length s):Int)-(↑(List.length (List.drop 1 s)):Int)) (k (.ret (.int .i64 ((↑(List.length s):Int)-(↑(List.length (List.drop 1 s)):Int))) Heap.empty))))
 else (j1)))
 else (j1)):=by kernel_rfl
theorem Kq1 (X:PlX) (ih:Task→Res) {β:Type} (bot:β) (k:Res→β) (s:List UInt8):evN PP EP CP (qp0 X) ih bot (.call 135 [.str s,.int .u8 46,.func (.func 136) [] []] Heap.empty) k =
 nX bot 0 (List.length s) (bif !decide (qO0 s 0=46) then (k (.ret (.int .i64 0) Heap.empty))
 else (need bot (((0:Int)≤1)∧((1:Int)≤((↑(List.length s):Int)))) (PR.bnd bot (X.1 (.call 136 [(.str (List.drop 1 s))] Heap.empty)) (fun a3 =>
 bif decide (0<a3) then (nI bot (a3+1) (k (.ret (.int .i64 (a3+1)) Heap.empty)))
 else (k (.ret (.int .i64 0) Heap.empty)))
 (fun _=>bot)))):=by kernel_rfl
theorem Kr1 (X:PlX) (ih:Task→Res) {β:Type} (bot:β) (k:Res→β) (s:List UInt8):evN PP EP CP (qp0 X) ih bot (.call 135 [.str s,.int .u8 36,.func (.func 133) [] []] Heap.empty) k =
 nX bot 0 (List.length s) (bif !decide (qO0 s 0=36) then (k (.ret (.int .i64 0) Heap.empty))
 else (need bot (((0:Int)≤1)∧((1:Int)≤((↑(List.length s):Int)))) (PR.bnd bot (X.1 (.call 133 [(.str (List.drop 1 s))] Heap.empty)) (fun a3 =>
 bif decide (0<a3) then (nI bot (a3+1) (k (.ret (.int .i64 (a3+1)) Heap.empty)))
 else (k (.ret (.int .i64 0) Heap.empty)))
 (fun _=>bot)))):=by kernel_rfl
theorem Ks1 (X:PlX) (ih:Task→Res) {β:Type} (bot:β) (k:Res→β) (s:List UInt8):evN PP EP CP (qp0 X) ih bot (.call 135 [.str s,.int .u8 64,.func (.func 138) [] []] Heap.empty) k =
 nX bot 0 (List.length s) (bif !decide (qO0 s 0=64) then (k (.ret (.int .i64 0) Heap.empty))
 else (need bot (((0:Int)≤1)∧((1:Int)≤((↑(List.length s):Int)))) (PR.bnd bot (X.1 (.call 138 [(.str (List.drop 1 s))] Heap.empty)) (fun a3 =>
 bif decide (0<a3) then (nI bot (a3+1) (k (.ret (.int .i64 (a3+1)) Heap.empty)))
 else (k (.ret (.int .i64 0) Heap.empty)))
 (fun _=>bot)))):=by kernel_rfl
theorem KF1 (X:PlX) (ih:Task→Res) {β:Type} (bot:β) (k:Res→β) (r:List UInt8):evN PP EP CP (qp0 X) ih bot (.call 175 [.str (41::r)] Heap.empty) k =
 nX bot 0 (List.length (41::r)) (need bot ((IntKind.u8=IntKind.u8)∧(qL0 BinOp.or IntKind.u8 (qO0 (41::r) 0) 32=some (V.int IntKind.u8 (orN (qO0 (41::r) 0) 32)))) (k (.ret (.int .i64 0) Heap.empty))):=by kernel_rfl
theorem KG1 (X:PlX) (ih:Task→Res) {β:Type} (bot:β) (k:Res→β) (r:List UInt8):evN PP EP CP (qp0 X) ih bot (.call 175 [.str (93::r)] Heap.empty) k =
 nX bot 0 (List.length (93::r)) (need bot ((IntKind.u8=IntKind.u8)∧(qL0 BinOp.or IntKind.u8 (qO0 (93::r) 0) 32=some (V.int IntKind.u8 (orN (qO0 (93::r) 0) 32)))) (k (.ret (.int .i64 0) Heap.empty))):=by kernel_rfl
theorem KE1 (X:PlX) (ih:Task→Res) {β:Type} (bot:β) (k:Res→β) (r:List UInt8):evN PP EP CP (qp0 X) ih bot (.call 175 [.str (125::r)] Heap.empty) k =
 nX bot 0 (List.length (125::r)) (need bot ((IntKind.u8=IntKind.u8)∧(qL0 BinOp.or IntKind.u8 (qO0 (125::r) 0) 32=some (V.int IntKind.u8 (orN (qO0 (125::r) 0) 32)))) (k (.ret (.int .i64 0) Heap.empty))):=by kernel_rfl
theorem KD1 (X:PlX) (ih:Task→Res) {β:Type} (bot:β) (k:Res→β) :evN PP EP CP (qp0 X) ih bot (.call 175 [.str []] Heap.empty) k =
 k (.ret (.int .i64 0) Heap.empty):=by kernel_rfl
theorem Kp1 (X:PlX) (ih:Task→Res) {β:Type} (bot:β) (k:Res→β) (r:List UInt8):evN PP EP CP (qp0 X) ih bot (.call 178 [.str (92::r),.str [34,92]] Heap.empty) k =
 bif decide (8<(↑(List.length (92::r)):Int)) then (need bot (((0:Int)≤0)∧((0:Int)<2)) (need bot ((-9223372036854775808≤1)∧((1:Int)≤9223372036854775807)) (need bot (((0:Int)≤1)∧((1:Int)<2)) (need bot ((-9223372036854775808≤2)∧((2:Int)≤9223372036854775807)) (bif decide (0<(↑(List.length (92::r)):Int)) then (nX bot 0 (List.length (92::r)) (k (.ret (.int .i64 0) Heap.empty)))
 else (k (.ret (.int .i64 (-1)) Heap.empty)))))))
 else (need bot (((0:Int)≤92)∧((92:Int)≤255)) (k (.ret (.int .i64 0) Heap.empty))):=by kernel_rfl
theorem Ko1 (X:PlX) (ih:Task→Res) {β:Type} (bot:β) (k:Res→β) (r:List UInt8):evN PP EP CP (qp0 X) ih bot (.call 178 [.str (34::r),.str [34,92]] Heap.empty) k =
 bif decide (8<(↑(List.length (34::r)):Int)) then (need bot (((0:Int)≤0)∧((0:Int)<2)) (need bot ((-9223372036854775808≤1)∧((1:Int)≤9223372036854775807)) (need bot (((0:Int)≤1)∧((1:Int)<2)) (need bot ((-9223372036854775808≤2)∧((2:Int)≤9223372036854775807)) (bif decide (0<(↑(List.length (34::r)):Int)) then (nX bot 0 (List.length (34::r)) (k (.ret (.int .i64 0) Heap.empty)))
 else (k (.ret (.int .i64 (-1)) Heap.empty)))))))
 else (need bot (((0:Int)≤34)∧((34:Int)≤255)) (k (.ret (.int .i64 0) Heap.empty))):=by kernel_rfl
theorem Ky1 (X:PlX) (ih:Task→Res) {β:Type} (bot:β) (k:Res→β) (s:List UInt8):evN PP EP CP (qp0 X) ih bot (.call 132 [.str s] Heap.empty) k =
 nX bot 0 (List.length s) (bif !decide (qO0 s 0=35) then (k (.ret (.int .i64 0) Heap.empty))
 else (PR.bnd bot (X.16 (.code (.loop (lpB PP 132 0)) ((base 132 42).on [(0,(.str (s))),(3,(.int .i64 0))]) Heap.empty)) (fun a2 =>
 k (.ret (.int .i64 (a2.2)) Heap.empty))
 (fun e2=>k (qN e2)))):=by kernel_rfl
theorem KC1 (X:PlX) (ih:Task→Res) {β:Type} (bot:β) (k:Res→β) (m:Int) (w:List UInt8):evN PP EP CP (qp0 X) ih bot (.call 66 [.agg [.int .i64 m,.str w]] Heap.empty) k =
 bif !decide (m=1) then (bif !decide (m=2) then (k (.ret (.bool true) Heap.empty))
 else (k (.ret (.bool false) Heap.empty)))
 else (k (.ret (.bool false) Heap.empty)):=by kernel_rfl
theorem Kv1 (X:PlX) (ih:Task→Res) {β:Type} (bot:β) (k:Res→β) (n:Int) (es:List V):evN PP EP CP (qp0 X) ih bot (.call 6 [.int .u16 n,.osl 1 es] Heap.empty) k =
 need bot (((0:Int)≤(n))∧((0:Int)<300)) (nI bot (n%300) (PR.bnd bot (X.11 (.code (.loop (lpB PP 6 0)) ((base 6 68).on [(1,(.osl 1 (es))),(5,(.int .i64 (n%300))),(6,(.str [])),(7,(.str [])),(8,(.int .i64 0))]) Heap.empty)) (fun a2 =>
 need bot ((List.length a2.2.2.1+1)≤1099511627776) (need bot ((List.length (a2.2.2.1++[49])+List.length a2.2.2.2)≤1099511627776) (PR.bnd bot (X.9 (.call 17 [(.str (a2.2.2.1++[49]++a2.2.2.2))] Heap.empty)) (fun a5 =>
 bif decide (a5.2.1=0) then (bif decide (a2.2.1≤256) then (bif decide (a5.2.1=0) then (k (.ret (.bool true) Heap.empty))
 else (bif decide (a5.2.1=21) then (k (.ret (.bool true) Heap.empty))
 else (k (.ret (.bool false) Heap.empty))))
 else (k (.ret (.bool false) Heap.empty)))
 else (bif decide (a2.2.1≤256) then (k (.ret (.bool false) Heap.empty))
 else (bif decide (a5.2.1=0) then (k (.ret (.bool true) Heap.empty))
 else (bif decide (a5.2.1=21) then (k (.ret (.bool true) Heap.empty))
 else (k (.ret (.bool false) Heap.empty))))))
 (fun _=>bot))))
 (fun e2=>k (qN e2)))):=by kernel_rfl
theorem qL1 (X:PlX) (ih:Task→Res) {β:Type} (bot:β) (k:Res→β) (es:List V) (m:Int) (f b:List UInt8) (i:Int):evN PP EP CP (qp0 X) ih bot (.code (.loop (lpB PP 6 0)) ((base 6 68).on [(1,.osl 1 es),(5,.int .i64 m),(6,.str f),(7,.str b),(8,.int .i64 i)]) Heap.empty) k =
 bif decide (i<m) then (bif decide (i<(↑(List.length es):Int)) then (nX bot (i) (List.length es) (need bot (ldC PP 5 1 (es) (Int.toNat i*1)) (need bot (((0:Int)≤(gI 1 es (Int.toNat i*1) 0))∧((0:Int)<4)) (nI bot (gI 1 es (Int.toNat i*1) 0%4) (need bot (((0:Int)≤(gI 1 es (Int.toNat i*1) 0%4))∧((gI 1 es (Int.toNat i*1) 0%4)<4)) (need bot (ldC PP 9 1 [(.str [40]),(.str [91]),(.str [123,97,58]),(.str [34,92,40])] (Int.toNat (gI 1 es (Int.toNat i*1) 0%4)*1)) (need bot ((List.length f+List.length (gS 1 [V.str [40],V.str [91],V.str [123,97,58],V.str [34,92,40]] (Int.toNat (gI 1 es (Int.toNat i*1) 0%4)*1) 0))≤1099511627776) (need bot (((0:Int)≤(gI 1 es (Int.toNat i*1) 0%4))∧((gI 1 es (Int.toNat i*1) 0%4)<4)) (need bot (ldC PP 9 1 [(.str [41]),(.str [93]),(.str [125]),(.str [41,34])] (Int.toNat (gI 1 es (Int.toNat i*1) 0%4)*1)) (need bot ((List.length (gS 1 [V.str [41],V.str [93],V.str [125],V.str [41,34]] (Int.toNat (gI 1 es (Int.toNat i*1) 0%4)*1) 0)+List.length b)≤1099511627776) (nI bot (i+1) (PR.bnd bot (X.11 (.code (.loop (lpB PP 6 0)) ((base 6 68).on [(1,(.osl 1 (es))),(5,(.int .i64 (m))),(6,(.str (f++gS 1 [V.str [40],V.str [91],V.str [123,97,58],V.str [34,92,40]] (Int.toNat (gI 1 es (Int.toNat i*1) 0%4)*1) 0))),(7,(.str (gS 1 [V.str [41],V.str [93],V.str [125],V.str [41,34]] (Int.toNat (gI 1 es (Int.toNat i*1) 0%4)*1) 0++b))),(8,(.int .i64 (i+1)))]) Heap.empty)) (fun a13 =>
 k (.code (.exit 0) ((base 6 68).on [(1,(.osl 1 (a13.1))),(5,(.int .i64 (a13.2.1))),(6,(.str (a13.2.2.1))),(7,(.str (a13.2.2.2)))]) Heap.empty))
 (fun e13=>k (qN e13))))))))))))))
 else (need bot (((0:Int)≤0)∧((0:Int)<4)) (need bot (ldC PP 9 1 [(.str [40]),(.str [91]),(.str [123,97,58]),(.str [34,92,40])] 0) (need bot ((List.length f+1)≤1099511627776) (need bot (((0:Int)≤0)∧((0:Int)<4)) (need bot (ldC PP 9 1 [(.str [41]),(.str [93]),(.str [125]),(.str [41,34])] 0) (need bot ((1+List.length b)≤1099511627776) (nI bot (i+1) (PR.bnd bot (X.11 (.code (.loop (lpB PP 6 0)) ((base 6 68).on [(1,(.osl 1 (es))),(5,(.int .i64 (m))),(6,(.str (f++[40]))),(7,(.str ([41]++b))),(8,(.int .i64 (i+1)))]) Heap.empty)) (fun a9 =>
 k (.code (.exit 0) ((base 6 68).on [(1,(.osl 1 (a9.1))),(5,(.int .i64 (a9.2.1))),(6,(.str (a9.2.2.1))),(7,(.str (a9.2.2.2)))]) Heap.empty))
 (fun e9=>k (qN e9)))))))))))
 else (k (.code (.exit 0) ((base 6 68).on [(1,(.osl 1 (es))),(5,(.int .i64 (m))),(6,(.str (f))),(7,(.str (b)))]) Heap.empty)):=by kernel_rfl
theorem KJ1 (X:PlX) (ih:Task→Res) {β:Type} (bot:β) (k:Res→β) (s:List UInt8):evN PP EP CP (qp0 X) ih bot (.call 17 [.str s] Heap.empty) k =
 PR.bnd bot (X.7 (.call 29 [(.str (s))] Heap.empty)) (fun a0 =>
 bif !decide (a0.2.1=0) then (k (.ret (.tup [(.agg [(.int .i64 0),(.str []),(.osl 3 [])]),(.int .u16 (a0.2.1)),(.int .i64 (a0.2.2))]) Heap.empty))
 else (PR.bnd bot (X.8 (.call 30 [(.osl 2 (a0.1))] Heap.empty)) (fun a2 =>
 PR.bnd bot (X.9 (.call 14 [(.osl 4 (a2.2))] Heap.empty)) (fun a3 =>
 bif decide (a3.2.1=0) then (k (.ret (.tup [(.agg [(.int .i64 (a3.1.k)),(.str (a3.1.t)),(.osl 3 (a3.1.ks))]),(.int .u16 (a3.2.1)),(.int .i64 0)]) Heap.empty))
 else (bif decide (a3.2.2<(↑(List.length a2.2):Int)) then (nX bot (a3.2.2) (List.length a2.2) (need bot (ldX PP 3 4 (a2.2) (Nat.add (Int.toNat a3.2.2*4) 2)) (need bot (ldX PP 3 4 (a2.2) (Nat.add (Int.toNat a3.2.2*4) 2)) (need bot (vEq (.int .i64 (gI 4 a2.2 (Nat.add (Int.toNat a3.2.2*4) 2) 0)) (.int .i64 (gI 4 a2.2 (Nat.add (Int.toNat a3.2.2*4) 2) 0))) (need bot (vEq (.gptr 4 (a2.2) (Nat.add (Int.toNat a3.2.2*4) 2)) (.gptr 4 (a2.2) (Nat.add (Int.toNat a3.2.2*4) 2))) (nX bot (a3.2.2) (List.length a2.2) (need bot (vEq (.gptr 4 (a2.2) (Int.toNat a3.2.2*4)) (.gptr 4 (a2.2) (Int.toNat a3.2.2*4))) (need bot (vEq (.int .i64 (a3.2.2)) (.int .i64 (a3.2.2))) (need bot (vEq (.osl 4 (a2.2)) (.osl 4 (a2.2))) (need bot (vEq (.int .u16 (a3.2.1)) (.int .u16 (a3.2.1))) (k (.ret (.tup [(.agg [(.int .i64 (a3.1.k)),(.str (a3.1.t)),(.osl 3 (a3.1.ks))]),(.int .u16 (a3.2.1)),(.int .i64 (gI 4 a2.2 (Nat.add (Int.toNat a3.2.2*4) 2) 0))]) Heap.empty))))))))))))
 else (k (.ret (.tup [(.agg [(.int .i64 (a3.1.k)),(.str (a3.1.t)),(.osl 3 (a3.1.ks))]),(.int .u16 (a3.2.1)),(.int .i64 ((↑(List.length s):Int)))]) Heap.empty))))
 (fun _=>bot))
 (fun _=>bot)))
 (fun _=>bot):=by kernel_rfl
theorem jD1 (X:PlX) (ih:Task→Res) {β:Type} (bot:β) (k:Res→β) (s:List UInt8) (a e:Int) (i:Bool):evN PP EP CP (qp0 X) ih bot (.call 96 [.ptr 0 0 0] (hp [.row 0 94 5 0 (some 1) [.agg [.str s,.int .i64 a,.nils,.bool i,.int .u16 e]]])) k =
 need bot (((0:Int)≤(a))∧((a)≤((↑(List.length s):Int)))) (PR.bnd bot (X.1 (.call 145 [(.str (List.drop (Int.toNat a) s))] Heap.empty)) (fun a1 =>
 bif decide (0<a1) then (need bot (((0:Int)≤(a1))∧((a1)≤((↑(List.length (List.drop (Int.toNat a) s)):Int)))) (k (.ret (.agg [(.int .i64 8),(.str (List.take (Int.toNat a1) (List.drop (Int.toNat a) s)))]) (hp [.row 0 94 5 0 (some 1) [(.agg [(.str (s)),(.int .i64 (a)),.nils,(.bool (i)),(.int .u16 (e))])]]))))
 else (nX bot 0 (List.length (List.drop (Int.toNat a) s)) (bif decide (qO0 (List.drop (Int.toNat a) s) 0=34) then (need bot (((0:Int)≤1)∧((1:Int)≤((↑(List.length (List.drop (Int.toNat a) s)):Int)))) (k (.ret (.agg [(.int .i64 11),(.str (List.take 1 (List.drop (Int.toNat a) s)))]) (hp [.row 0 94 5 0 (some 1) [(.agg [(.str (s)),(.int .i64 (a)),.nils,(.bool false),(.int .u16 (e))])]]))))
 else (PR.bnd bot (X.2 (.call 92 [(.str (List.drop (Int.toNat a) s)),(.str [92,40])] Heap.empty)) (fun a5 =>
 bif a5 then (need bot (([V.int IntKind.i64 (0:Int)]≠[])∧((1≤1099511627776)∧(8≤1099511627776))) (need bot (((0:Int)≤2)∧((2:Int)≤((↑(List.length (List.drop (Int.toNat a) s)):Int)))) (need bot (GndR [(.int .i64 0)]) (k (.ret (.agg [(.int .i64 9),(.str (List.take 2 (List.drop (Int.toNat a) s)))]) (hp [.row 0 94 5 0 (some 1) [(.agg [(.str (s)),(.int .i64 (a)),(.sl 1 0 0 1 none),(.bool false),(.int .u16 (e))])],.row 0 3 1 0 none [(.int .i64 0)]]))))))
 else (k (.ret (.agg [(.int .i64 0),(.str [])]) (hp [.row 0 94 5 0 (some 1) [(.agg [(.str (s)),(.int .i64 (a)),.nils,(.bool (i)),(.int .u16 12)])]]))))
 (fun _=>bot)))))
 (fun _=>bot)):=by kernel_rfl
theorem qM1 (X:PlX) (ih:Task→Res) {β:Type} (bot:β) (k:Res→β) (s:List UInt8) (a e:Int) (i:Bool) (v n:Nat) (o:List V):evN PP EP CP (qp0 X) ih bot (.call 96 [.ptr 0 0 0] (hp [.row 0 94 5 0 (some 1) [.agg [.str s,.int .i64 a,.sl 1 v 0 n none,.bool i,.int .u16 e]],.row v 3 1 0 none o])) k =
 need bot (((0:Int)≤(a))∧((a)≤((↑(List.length s):Int)))) (PR.bnd bot (X.1 (.call 145 [(.str (List.drop (Int.toNat a) s))] Heap.empty)) (fun a1 =>
 bif decide (0<a1) then (need bot (((0:Int)≤(a1))∧((a1)≤((↑(List.length (List.drop (Int.toNat a) s)):Int)))) (need bot (GndR (o)) (k (.ret (.agg [(.int .i64 8),(.str (List.take (Int.toNat a1) (List.drop (Int.toNat a) s)))]) (hp [.row 0 94 5 0 (some 1) [(.agg [(.str (s)),(.int .i64 (a)),(.sl 1 (v) 0 (n) none),(.bool (i)),(.int .u16 (e))])],.row (v) 3 1 0 none (o)])))))
 else (nX bot 0 (List.length (List.drop (Int.toNat a) s)) (bif decide (qO0 (List.drop (Int.toNat a) s) 0=34) then (need bot (((0:Int)≤1)∧((1:Int)≤((↑(List.length (List.drop (Int.toNat a) s)):Int)))) (need bot (GndR (o)) (k (.ret (.agg [(.int .i64 11),(.str (List.take 1 (List.drop (Int.toNat a) s)))]) (hp [.row 0 94 5 0 (some 1) [(.agg [(.str (s)),(.int .i64 (a)),(.sl 1 (v) 0 (n) none),(.bool false),(.int .u16 (e))])],.row (v) 3 1 0 none (o)])))))
 else (PR.bnd bot (X.2 (.call 92 [(.str (List.drop (Int.toNat a) s)),(.str [92,40])] Heap.empty)) (fun a5 =>
 bif a5 then (bif decide (256≤(↑n:Int)) then (need bot (GndR (o)) (k (.ret (.agg [(.int .i64 0),(.str [])]) (hp [.row 0 94 5 0 (some 1) [(.agg [(.str (s)),(.int .i64 (a)),(.sl 1 (v) 0 (n) none),(.bool (i)),(.int .u16 21)])],.row (v) 3 1 0 none (o)]))))
 else (need bot (((v)=(v))∧(([V.int IntKind.i64 (0:Int)]≠[])∧(((n)=(List.length o))∧((0≤(n))∧(((n+List.length [V.int IntKind.i64 0])≤1099511627776)∧(((n+List.length [V.int IntKind.i64 0])*8)≤1099511627776)))))) (need bot (((0:Int)≤2)∧((2:Int)≤((↑(List.length (List.drop (Int.toNat a) s)):Int)))) (need bot (GndR (o++[V.int IntKind.i64 0])) (k (.ret (.agg [(.int .i64 9),(.str (List.take 2 (List.drop (Int.toNat a) s)))]) (hp [.row 0 94 5 0 (some 1) [(.agg [(.str (s)),(.int .i64 (a)),(.sl 1 (Nat.succ v) 0 (n+List.length [V.int IntKind.i64 0]) none),(.bool false),(.int .u16 (e))])],.row (Nat.succ v) 3 1 0 none (o++[V.int IntKind.i64 0])])))))))
 else (need bot (GndR (o)) (k (.ret (.agg [(.int .i64 0),(.str [])]) (hp [.row 0 94 5 0 (some 1) [(.agg [(.str (s)),(.int .i64 (a)),(.sl 1 (v) 0 (n) none),(.bool (i)),(.int .u16 12)])],.row (v) 3 1 0 none (o)])))))
 (fun _=>bot)))))
 (fun _=>bot)):=by kernel_rfl
theorem KA0 (X:PlX) (ih:Task→Res) {β:Type} (bot:β) (k:Res→β) (s:List UInt8) (a e:Int) (i:Bool):evN PP EP CP (qp0 X) ih bot (.call 98 [.ptr 0 0 0,.osl 2 [(.agg [(.int .i64 1),(.func (.func 129) [] [])]),(.agg [(.int .i64 2),(.func (.func 132) [] [])]),(.agg [(.int .i64 3),(.func (.func 133) [] [])]),(.agg [(.int .i64 4),(.func (.func 134) [] [])]),(.agg [(.int .i64 5),(.func (.func 139) [] [])]),(.agg [(.int .i64 12),(.func (.func 140) [] [])]),(.agg [(.int .i64 6),(.func (.func 141) [] [])]),(.agg [(.int .i64 7),(.func (.func 142) [] [])]),(.agg [(.int .i64 13),(.func (.func 144) [] [])])]] (hp [.row 0 94 5 0 (some 1) [.agg [.str s,.int .i64 a,.nils,.bool i,.int .u16 e]]])) k =
 need bot (((0:Int)≤(a))∧((a)≤((↑(List.length s):Int)))) (need bot (((0:Int)≤0)∧((0:Int)<9)) (PR.bnd bot (X.1 (.call 129 [(.str (List.drop (Int.toNat a) s))] Heap.empty)) (fun a2 =>
 bif decide (0<a2) then (need bot (((0:Int)≤(a2))∧((a2)≤((↑(List.length (List.drop (Int.toNat a) s)):Int)))) (need bot (vEq (.agg [(.int .i64 1),(.str (List.take (Int.toNat a2) (List.drop (Int.toNat a) s)))]) (.agg [(.int .i64 1),(.str (List.take (Int.toNat a2) (List.drop (Int.toNat a) s)))])) (need bot (((0:Int)≤(a2))∧((a2)≤((↑(List.length (List.drop (Int.toNat a) s)):Int)))) (need bot (vEq (.str (List.take (Int.toNat a2) (List.drop (Int.toNat a) s))) (.str (List.take (Int.toNat a2) (List.drop (Int.toNat a) s)))) (need bot (vEq (.int .i64 (a2)) (.int .i64 (a2))) (need bot (vEq (.str (List.drop (Int.toNat a) s)) (.str (List.drop (Int.toNat a) s))) (need bot (vEq (.int .i64 1) (.int .i64 1)) (need bot (vEq (.ptr 2 0 0) (.ptr 2 0 0)) (k (.ret (.agg [(.int .i64 1),(.str (List.take (Int.toNat a2) (List.drop (Int.toNat a) s)))]) (hp [.row 0 94 5 0 (some 1) [(.agg [(.str (s)),(.int .i64 (a)),.nils,(.bool false),(.int .u16 (e))])]])))))))))))
 else (need bot ((-9223372036854775808≤1)∧((1:Int)≤9223372036854775807)) (need bot (((0:Int)≤1)∧((1:Int)<9)) (PR.bnd bot (X.1 (.call 132 [(.str (List.drop (Int.toNat a) s))] Heap.empty)) (fun a6 =>
 bif decide (0<a6) then (need bot (((0:Int)≤(a6))∧((a6)≤((↑(List.length (List.drop (Int.toNat a) s)):Int)))) (need bot (vEq (.agg [(.int .i64 2),(.str (List.take (Int.toNat a6) (List.drop (Int.toNat a) s)))]) (.agg [(.int .i64 2),(.str (List.take (Int.toNat a6) (List.drop (Int.toNat a) s)))])) (need bot (((0:Int)≤(a6))∧((a6)≤((↑(List.length (List.drop (Int.toNat a) s)):Int)))) (need bot (vEq (.str (List.take (Int.toNat a6) (List.drop (Int.toNat a) s))) (.str (List.take (Int.toNat a6) (List.drop (Int.toNat a) s)))) (need bot (vEq (.int .i64 (a6)) (.int .i64 (a6))) (need bot (vEq (.str (List.drop (Int.toNat a) s)) (.str (List.drop (Int.toNat a) s))) (need bot (vEq (.int .i64 2) (.int .i64 2)) (need bot (vEq (.ptr 2 0 0) (.ptr 2 0 0)) (k (.ret (.agg [(.int .i64 2),(.str (List.take (Int.toNat a6) (List.drop (Int.toNat a) s)))]) (hp [.row 0 94 5 0 (some 1) [(.agg [(.str (s)),(.int .i64 (a)),.nils,(.bool false),(.int .u16 (e))])]])))))))))))
 else (need bot ((-9223372036854775808≤2)∧((2:Int)≤9223372036854775807)) (need bot (((0:Int)≤2)∧((2:Int)<9)) (PR.bnd bot (X.1 (.call 133 [(.str (List.drop (Int.toNat a) s))] Heap.empty)) (fun a10 =>
 bif decide (0<a10) then (need bot (((0:Int)≤(a10))∧((a10)≤((↑(List.length (List.drop (Int.toNat a) s)):Int)))) (need bot (vEq (.agg [(.int .i64 3),(.str (List.take (Int.toNat a10) (List.drop (Int.toNat a) s)))]) (.agg [(.int .i64 3),(.str (List.take (Int.toNat a10) (List.drop (Int.toNat a) s)))])) (need bot (((0:Int)≤(a10))∧((a10)≤((↑(List.length (List.drop (Int.toNat a) s)):Int)))) (need bot (vEq (.str (List.take (Int.toNat a10) (List.drop (Int.toNat a) s))) (.str (List.take (Int.toNat a10) (List.drop (Int.toNat a) s)))) (need bot (vEq (.int .i64 (a10)) (.int .i64 (a10))) (need bot (vEq (.str (List.drop (Int.toNat a) s)) (.str (List.drop (Int.toNat a) s))) (need bot (vEq (.int .i64 3) (.int .i64 3)) (need bot (vEq (.ptr 2 0 0) (.ptr 2 0 0)) (k (.ret (.agg [(.int .i64 3),(.str (List.take (Int.toNat a10) (List.drop (Int.toNat a) s)))]) (hp [.row 0 94 5 0 (some 1) [(.agg [(.str (s)),(.int .i64 (a)),.nils,(.bool false),(.int .u16 (e))])]])))))))))))
 else (need bot ((-9223372036854775808≤3)∧((3:Int)≤9223372036854775807)) (need bot (((0:Int)≤3)∧((3:Int)<9)) (PR.bnd bot (X.1 (.call 134 [(.str (List.drop (Int.toNat a) s))] Heap.empty)) (fun a14 =>
 bif decide (0<a14) then (need bot (((0:Int)≤(a14))∧((a14)≤((↑(List.length (List.drop (Int.toNat a) s)):Int)))) (need bot (vEq (.agg [(.int .i64 4),(.str (List.take (Int.toNat a14) (List.drop (Int.toNat a) s)))]) (.agg [(.int .i64 4),(.str (List.take (Int.toNat a14) (List.drop (Int.toNat a) s)))])) (need bot (((0:Int)≤(a14))∧((a14)≤((↑(List.length (List.drop (Int.toNat a) s)):Int)))) (need bot (vEq (.str (List.take (Int.toNat a14) (List.drop (Int.toNat a) s))) (.str (List.take (Int.toNat a14) (List.drop (Int.toNat a) s)))) (need bot (vEq (.int .i64 (a14)) (.int .i64 (a14))) (need bot (vEq (.str (List.drop (Int.toNat a) s)) (.str (List.drop (Int.toNat a) s))) (need bot (vEq (.int .i64 4) (.int .i64 4)) (need bot (vEq (.ptr 2 0 0) (.ptr 2 0 0)) (k (.ret (.agg [(.int .i64 4),(.str (List.take (Int.toNat a14) (List.drop (Int.toNat a) s)))]) (hp [.row 0 94 5 0 (some 1) [(.agg [(.str (s)),(.int .i64 (a)),.nils,(.bool false),(.int .u16 (e))])]])))))))))))
 else (need bot ((-9223372036854775808≤4)∧((4:Int)≤9223372036854775807)) (need bot (((0:Int)≤4)∧((4:Int)<9)) (PR.bnd bot (X.1 (.call 139 [(.str (List.drop (Int.toNat a) s))] Heap.empty)) (fun a18 =>
 bif decide (0<a18) then (need bot (((0:Int)≤(a18))∧((a18)≤((↑(List.length (List.drop (Int.toNat a) s)):Int)))) (need bot (vEq (.agg [(.int .i64 5),(.str (List.take (Int.toNat a18) (List.drop (Int.toNat a) s)))]) (.agg [(.int .i64 5),(.str (List.take (Int.toNat a18) (List.drop (Int.toNat a) s)))])) (need bot (((0:Int)≤(a18))∧((a18)≤((↑(List.length (List.drop (Int.toNat a) s)):Int)))) (need bot (vEq (.str (List.take (Int.toNat a18) (List.drop (Int.toNat a) s))) (.str (List.take (Int.toNat a18) (List.drop (Int.toNat a) s)))) (need bot (vEq (.int .i64 (a18)) (.int .i64 (a18))) (need bot (vEq (.str (List.drop (Int.toNat a) s)) (.str (List.drop (Int.toNat a) s))) (need bot (vEq (.int .i64 5) (.int .i64 5)) (need bot (vEq (.ptr 2 0 0) (.ptr 2 0 0)) (k (.ret (.agg [(.int .i64 5),(.str (List.take (Int.toNat a18) (List.drop (Int.toNat a) s)))]) (hp [.row 0 94 5 0 (some 1) [(.agg [(.str (s)),(.int .i64 (a)),.nils,(.bool false),(.int .u16 (e))])]])))))))))))
 else (need bot ((-9223372036854775808≤5)∧((5:Int)≤9223372036854775807)) (need bot (((0:Int)≤5)∧((5:Int)<9)) (PR.bnd bot (X.1 (.call 140 [(.str (List.drop (Int.toNat a) s))] Heap.empty)) (fun a22 =>
 bif decide (0<a22) then (need bot (((0:Int)≤(a22))∧((a22)≤((↑(List.length (List.drop (Int.toNat a) s)):Int)))) (need bot (vEq (.agg [(.int .i64 12),(.str (List.take (Int.toNat a22) (List.drop (Int.toNat a) s)))]) (.agg [(.int .i64 12),(.str (List.take (Int.toNat a22) (List.drop (Int.toNat a) s)))])) (need bot (((0:Int)≤(a22))∧((a22)≤((↑(List.length (List.drop (Int.toNat a) s)):Int)))) (need bot (vEq (.str (List.take (Int.toNat a22) (List.drop (Int.toNat a) s))) (.str (List.take (Int.toNat a22) (List.drop (Int.toNat a) s)))) (need bot (vEq (.int .i64 (a22)) (.int .i64 (a22))) (need bot (vEq (.str (List.drop (Int.toNat a) s)) (.str (List.drop (Int.toNat a) s))) (need bot (vEq (.int .i64 12) (.int .i64 12)) (need bot (vEq (.ptr 2 0 0) (.ptr 2 0 0)) (k (.ret (.agg [(.int .i64 12),(.str (List.take (Int.toNat a22) (List.drop (Int.toNat a) s)))]) (hp [.row 0 94 5 0 (some 1) [(.agg [(.str (s)),(.int .i64 (a)),.nils,(.bool false),(.int .u16 (e))])]])))))))))))
 else (need bot ((-9223372036854775808≤6)∧((6:Int)≤9223372036854775807)) (need bot (((0:Int)≤6)∧((6:Int)<9)) (PR.bnd bot (X.1 (.call 141 [(.str (List.drop (Int.toNat a) s))] Heap.empty)) (fun a26 =>
 bif decide (0<a26) then (need bot (((0:Int)≤(a26))∧((a26)≤((↑(List.length (List.drop (Int.toNat a) s)):Int)))) (need bot (vEq (.agg [(.int .i64 6),(.str (List.take (Int.toNat a26) (List.drop (Int.toNat a) s)))]) (.agg [(.int .i64 6),(.str (List.take (Int.toNat a26) (List.drop (Int.toNat a) s)))])) (need bot (((0:Int)≤(a26))∧((a26)≤((↑(List.length (List.drop (Int.toNat a) s)):Int)))) (need bot (vEq (.str (List.take (Int.toNat a26) (List.drop (Int.toNat a) s))) (.str (List.take (Int.toNat a26) (List.drop (Int.toNat a) s)))) (need bot (vEq (.int .i64 (a26)) (.int .i64 (a26))) (need bot (vEq (.str (List.drop (Int.toNat a) s)) (.str (List.drop (Int.toNat a) s))) (need bot (vEq (.int .i64 6) (.int .i64 6)) (need bot (vEq (.ptr 2 0 0) (.ptr 2 0 0)) (k (.ret (.agg [(.int .i64 6),(.str (List.take (Int.toNat a26) (List.drop (Int.toNat a) s)))]) (hp [.row 0 94 5 0 (some 1) [(.agg [(.str (s)),(.int .i64 (a)),.nils,(.bool false),(.int .u16 (e))])]])))))))))))
 else (need bot ((-9223372036854775808≤7)∧((7:Int)≤9223372036854775807)) (need bot (((0:Int)≤7)∧((7:Int)<9)) (PR.bnd bot (X.1 (.call 142 [(.str (List.drop (Int.toNat a) s))] Heap.empty)) (fun a30 =>
 bif decide (0<a30) then (need bot (((0:Int)≤(a30))∧((a30)≤((↑(List.length (List.drop (Int.toNat a) s)):Int)))) (need bot (vEq (.agg [(.int .i64 7),(.str (List.take (Int.toNat a30) (List.drop (Int.toNat a) s)))]) (.agg [(.int .i64 7),(.str (List.take (Int.toNat a30) (List.drop (Int.toNat a) s)))])) (need bot (((0:Int)≤(a30))∧((a30)≤((↑(List.length (List.drop (Int.toNat a) s)):Int)))) (need bot (vEq (.str (List.take (Int.toNat a30) (List.drop (Int.toNat a) s))) (.str (List.take (Int.toNat a30) (List.drop (Int.toNat a) s)))) (need bot (vEq (.int .i64 (a30)) (.int .i64 (a30))) (need bot (vEq (.str (List.drop (Int.toNat a) s)) (.str (List.drop (Int.toNat a) s))) (need bot (vEq (.int .i64 7) (.int .i64 7)) (need bot (vEq (.ptr 2 0 0) (.ptr 2 0 0)) (k (.ret (.agg [(.int .i64 7),(.str (List.take (Int.toNat a30) (List.drop (Int.toNat a) s)))]) (hp [.row 0 94 5 0 (some 1) [(.agg [(.str (s)),(.int .i64 (a)),.nils,(.bool true),(.int .u16 (e))])]])))))))))))
 else (need bot ((-9223372036854775808≤8)∧((8:Int)≤9223372036854775807)) (need bot (((0:Int)≤8)∧((8:Int)<9)) (PR.bnd bot (X.1 (.call 144 [(.str (List.drop (Int.toNat a) s))] Heap.empty)) (fun a34 =>
 bif decide (0<a34) then (need bot (((0:Int)≤(a34))∧((a34)≤((↑(List.length (List.drop (Int.toNat a) s)):Int)))) (need bot (vEq (.agg [(.int .i64 13),(.str (List.take (Int.toNat a34) (List.drop (Int.toNat a) s)))]) (.agg [(.int .i64 13),(.str (List.take (Int.toNat a34) (List.drop (Int.toNat a) s)))])) (need bot (((0:Int)≤(a34))∧((a34)≤((↑(List.length (List.drop (Int.toNat a) s)):Int)))) (need bot (vEq (.str (List.take (Int.toNat a34) (List.drop (Int.toNat a) s))) (.str (List.take (Int.toNat a34) (List.drop (Int.toNat a) s)))) (need bot (vEq (.int .i64 (a34)) (.int .i64 (a34))) (need bot (vEq (.str (List.drop (Int.toNat a) s)) (.str (List.drop (Int.toNat a) s))) (need bot (vEq (.int .i64 13) (.int .i64 13)) (need bot (vEq (.ptr 2 0 0) (.ptr 2 0 0)) (k (.ret (.agg [(.int .i64 13),(.str (List.take (Int.toNat a34) (List.drop (Int.toNat a) s)))]) (hp [.row 0 94 5 0 (some 1) [(.agg [(.str (s)),(.int .i64 (a)),.nils,(.bool false),(.int .u16 (e))])]])))))))))))
 else (need bot ((-9223372036854775808≤9)∧((9:Int)≤9223372036854775807)) (k (.ret (.agg [(.int .i64 0),(.str [])]) (hp [.row 0 94 5 0 (some 1) [(.agg [(.str (s)),(.int .i64 (a)),.nils,(.bool (i)),(.int .u16 11)])]])))))
 (fun _=>bot)))))
 (fun _=>bot)))))
 (fun _=>bot)))))
 (fun _=>bot)))))
 (fun _=>bot)))))
 (fun _=>bot)))))
 (fun _=>bot)))))
 (fun _=>bot)))))
 (fun _=>bot))):=by kernel_rfl
theorem Yf0 (X:PlX) (ih:Task→Res) {β:Type} (bot:β) (k:Res→β) (s:List UInt8) (a e:Int) (i:Bool) (v n:Nat) (o:List V):evN PP EP CP (qp0 X) ih bot (.call 98 [.ptr 0 0 0,.osl 2 [(.agg [(.int .i64 1),(.func (.func 129) [] [])]),(.agg [(.int .i64 2),(.func (.func 132) [] [])]),(.agg [(.int .i64 3),(.func (.func 133) [] [])]),(.agg [(.int .i64 4),(.func (.func 134) [] [])]),(.agg [(.int .i64 5),(.func (.func 139) [] [])]),(.agg [(.int .i64 12),(.func (.func 140) [] [])]),(.agg [(.int .i64 6),(.func (.func 141) [] [])]),(.agg [(.int .i64 7),(.func (.func 142) [] [])]),(.agg [(.int .i64 13),(.func (.func 144) [] [])])]] (hp [.row 0 94 5 0 (some 1) [.agg [.str s,.int .i64 a,.sl 1 v 0 n none,.bool i,.int .u16 e]],.row v 3 1 0 none o])) k =
 need bot (((0:Int)≤(a))∧((a)≤((↑(List.length s):Int)))) (need bot (((0:Int)≤0)∧((0:Int)<9)) (PR.bnd bot (X.1 (.call 129 [(.str (List.drop (Int.toNat a) s))] Heap.empty)) (fun a2 =>
 bif decide (0<a2) then (need bot (((0:Int)≤(a2))∧((a2)≤((↑(List.length (List.drop (Int.toNat a) s)):Int)))) (need bot (vEq (.agg [(.int .i64 1),(.str (List.take (Int.toNat a2) (List.drop (Int.toNat a) s)))]) (.agg [(.int .i64 1),(.str (List.take (Int.toNat a2) (List.drop (Int.toNat a) s)))])) (need bot (((0:Int)≤(a2))∧((a2)≤((↑(List.length (List.drop (Int.toNat a) s)):Int)))) (need bot (vEq (.str (List.take (Int.toNat a2) (List.drop (Int.toNat a) s))) (.str (List.take (Int.toNat a2) (List.drop (Int.toNat a) s)))) (need bot (vEq (.int .i64 (a2)) (.int .i64 (a2))) (need bot (vEq (.str (List.drop (Int.toNat a) s)) (.str (List.drop (Int.toNat a) s))) (need bot (vEq (.int .i64 1) (.int .i64 1)) (need bot (vEq (.ptr 3 0 0) (.ptr 3 0 0)) (jn (need bot (GndR (o)) (need bot (GndR (o)) (k (.ret (.agg [(.int .i64 1),(.str (List.take (Int.toNat a2) (List.drop (Int.toNat a) s)))]) (hp [.row 0 94 5 0 (some 1) [(.agg [(.str (s)),(.int .i64 (a)),(.sl 1 (v) 0 (n) none),(.bool false),(.int .u16 (e))])],.row (v) 3 1 0 none (o)])))))
 (fun j1:β=>bif decide ((↑n:Int)=0) then (j1)
 else (nI bot ((↑n:Int)-1) (need bot (((0:Int)≤((↑n:Int)-1))∧(((↑n:Int)-1)<((↑n:Int)))) (j1)))))))))))))
 else (need bot ((-9223372036854775808≤1)∧((1:Int)≤9223372036854775807)) (need bot (GndR (o)) (need bot (((0:Int)≤1)∧((1:Int)<9)) (PR.bnd bot (X.1 (.call 132 [(.str (List.drop (Int.toNat a) s))] Heap.empty)) (fun a7 =>
 bif decide (0<a7) then (need bot (((0:Int)≤(a7))∧((a7)≤((↑(List.length (List.drop (Int.toNat a) s)):Int)))) (need bot (vEq (.agg [(.int .i64 2),(.str (List.take (Int.toNat a7) (List.drop (Int.toNat a) s)))]) (.agg [(.int .i64 2),(.str (List.take (Int.toNat a7) (List.drop (Int.toNat a) s)))])) (need bot (((0:Int)≤(a7))∧((a7)≤((↑(List.length (List.drop (Int.toNat a) s)):Int)))) (need bot (vEq (.str (List.take (Int.toNat a7) (List.drop (Int.toNat a) s))) (.str (List.take (Int.toNat a7) (List.drop (Int.toNat a) s)))) (need bot (vEq (.int .i64 (a7)) (.int .i64 (a7))) (need bot (vEq (.str (List.drop (Int.toNat a) s)) (.str (List.drop (Int.toNat a) s))) (need bot (vEq (.int .i64 2) (.int .i64 2)) (need bot (vEq (.ptr 3 0 0) (.ptr 3 0 0)) (jn (need bot (GndR (o)) (need bot (GndR (o)) (k (.ret (.agg [(.int .i64 2),(.str (List.take (Int.toNat a7) (List.drop (Int.toNat a) s)))]) (hp [.row 0 94 5 0 (some 1) [(.agg [(.str (s)),(.int .i64 (a)),(.sl 1 (v) 0 (n) none),(.bool false),(.int .u16 (e))])],.row (v) 3 1 0 none (o)])))))
 (fun j2:β=>bif decide ((↑n:Int)=0) then (j2)
 else (nI bot ((↑n:Int)-1) (need bot (((0:Int)≤((↑n:Int)-1))∧(((↑n:Int)-1)<((↑n:Int)))) (j2)))))))))))))
 else (need bot ((-9223372036854775808≤2)∧((2:Int)≤9223372036854775807)) (need bot (GndR (o)) (need bot (((0:Int)≤2)∧((2:Int)<9)) (PR.bnd bot (X.1 (.call 133 [(.str (List.drop (Int.toNat a) s))] Heap.empty)) (fun a12 =>
 bif decide (0<a12) then (need bot (((0:Int)≤(a12))∧((a12)≤((↑(List.length (List.drop (Int.toNat a) s)):Int)))) (need bot (vEq (.agg [(.int .i64 3),(.str (List.take (Int.toNat a12) (List.drop (Int.toNat a) s)))]) (.agg [(.int .i64 3),(.str (List.take (Int.toNat a12) (List.drop (Int.toNat a) s)))])) (need bot (((0:Int)≤(a12))∧((a12)≤((↑(List.length (List.drop (Int.toNat a) s)):Int)))) (need bot (vEq (.str (List.take (Int.toNat a12) (List.drop (Int.toNat a) s))) (.str (List.take (Int.toNat a12) (List.drop (Int.toNat a) s)))) (need bot (vEq (.int .i64 (a12)) (.int .i64 (a12))) (need bot (vEq (.str (List.drop (Int.toNat a) s)) (.str (List.drop (Int.toNat a) s))) (need bot (vEq (.int .i64 3) (.int .i64 3)) (need bot (vEq (.ptr 3 0 0) (.ptr 3 0 0)) (jn (need bot (GndR (o)) (need bot (GndR (o)) (k (.ret (.agg [(.int .i64 3),(.str (List.take (Int.toNat a12) (List.drop (Int.toNat a) s)))]) (hp [.row 0 94 5 0 (some 1) [(.agg [(.str (s)),(.int .i64 (a)),(.sl 1 (v) 0 (n) none),(.bool false),(.int .u16 (e))])],.row (v) 3 1 0 none (o)])))))
 (fun j3:β=>bif decide ((↑n:Int)=0) then (j3)
 else (nI bot ((↑n:Int)-1) (need bot (((0:Int)≤((↑n:Int)-1))∧(((↑n:Int)-1)<((↑n:Int)))) (j3)))))))))))))
 else (need bot ((-9223372036854775808≤3)∧((3:Int)≤9223372036854775807)) (need bot (GndR (o)) (need bot (((0:Int)≤3)∧((3:Int)<9)) (PR.bnd bot (X.1 (.call 134 [(.str (List.drop (Int.toNat a) s))] Heap.empty)) (fun a17 =>
 bif decide (0<a17) then (need bot (((0:Int)≤(a17))∧((a17)≤((↑(List.length (List.drop (Int.toNat a) s)):Int)))) (need bot (vEq (.agg [(.int .i64 4),(.str (List.take (Int.toNat a17) (List.drop (Int.toNat a) s)))]) (.agg [(.int .i64 4),(.str (List.take (Int.toNat a17) (List.drop (Int.toNat a) s)))])) (need bot (((0:Int)≤(a17))∧((a17)≤((↑(List.length (List.drop (Int.toNat a) s)):Int)))) (need bot (vEq (.str (List.take (Int.toNat a17) (List.drop (Int.toNat a) s))) (.str (List.take (Int.toNat a17) (List.drop (Int.toNat a) s)))) (need bot (vEq (.int .i64 (a17)) (.int .i64 (a17))) (need bot (vEq (.str (List.drop (Int.toNat a) s)) (.str (List.drop (Int.toNat a) s))) (need bot (vEq (.int .i64 4) (.int .i64 4)) (need bot (vEq (.ptr 3 0 0) (.ptr 3 0 0)) (jn (need bot (GndR (o)) (need bot (GndR (o)) (k (.ret (.agg [(.int .i64 4),(.str (List.take (Int.toNat a17) (List.drop (Int.toNat a) s)))]) (hp [.row 0 94 5 0 (some 1) [(.agg [(.str (s)),(.int .i64 (a)),(.sl 1 (v) 0 (n) none),(.bool false),(.int .u16 (e))])],.row (v) 3 1 0 none (o)])))))
 (fun j4:β=>bif decide ((↑n:Int)=0) then (j4)
 else (nI bot ((↑n:Int)-1) (need bot (((0:Int)≤((↑n:Int)-1))∧(((↑n:Int)-1)<((↑n:Int)))) (j4)))))))))))))
 else (need bot ((-9223372036854775808≤4)∧((4:Int)≤9223372036854775807)) (need bot (GndR (o)) (need bot (((0:Int)≤4)∧((4:Int)<9)) (PR.bnd bot (X.1 (.call 139 [(.str (List.drop (Int.toNat a) s))] Heap.empty)) (fun a22 =>
 bif decide (0<a22) then (need bot (((0:Int)≤(a22))∧((a22)≤((↑(List.length (List.drop (Int.toNat a) s)):Int)))) (need bot (vEq (.agg [(.int .i64 5),(.str (List.take (Int.toNat a22) (List.drop (Int.toNat a) s)))]) (.agg [(.int .i64 5),(.str (List.take (Int.toNat a22) (List.drop (Int.toNat a) s)))])) (need bot (((0:Int)≤(a22))∧((a22)≤((↑(List.length (List.drop (Int.toNat a) s)):Int)))) (need bot (vEq (.str (List.take (Int.toNat a22) (List.drop (Int.toNat a) s))) (.str (List.take (Int.toNat a22) (List.drop (Int.toNat a) s)))) (need bot (vEq (.int .i64 (a22)) (.int .i64 (a22))) (need bot (vEq (.str (List.drop (Int.toNat a) s)) (.str (List.drop (Int.toNat a) s))) (need bot (vEq (.int .i64 5) (.int .i64 5)) (need bot (vEq (.ptr 3 0 0) (.ptr 3 0 0)) (jn (need bot (GndR (o)) (need bot (GndR (o)) (k (.ret (.agg [(.int .i64 5),(.str (List.take (Int.toNat a22) (List.drop (Int.toNat a) s)))]) (hp [.row 0 94 5 0 (some 1) [(.agg [(.str (s)),(.int .i64 (a)),(.sl 1 (v) 0 (n) none),(.bool false),(.int .u16 (e))])],.row (v) 3 1 0 none (o)])))))
 (fun j5:β=>bif decide ((↑n:Int)=0) then (j5)
 else (nI bot ((↑n:Int)-1) (need bot (((0:Int)≤((↑n:Int)-1))∧(((↑n:Int)-1)<((↑n:Int)))) (j5)))))))))))))
 else (need bot ((-9223372036854775808≤5)∧((5:Int)≤9223372036854775807)) (need bot (GndR (o)) (need bot (((0:Int)≤5)∧((5:Int)<9)) (PR.bnd bot (X.1 (.call 140 [(.str (List.drop (Int.toNat a) s))] Heap.empty)) (fun a27 =>
 bif decide (0<a27) then (need bot (((0:Int)≤(a27))∧((a27)≤((↑(List.length (List.drop (Int.toNat a) s)):Int)))) (need bot (vEq (.agg [(.int .i64 12),(.str (List.take (Int.toNat a27) (List.drop (Int.toNat a) s)))]) (.agg [(.int .i64 12),(.str (List.take (Int.toNat a27) (List.drop (Int.toNat a) s)))])) (need bot (((0:Int)≤(a27))∧((a27)≤((↑(List.length (List.drop (Int.toNat a) s)):Int)))) (need bot (vEq (.str (List.take (Int.toNat a27) (List.drop (Int.toNat a) s))) (.str (List.take (Int.toNat a27) (List.drop (Int.toNat a) s)))) (need bot (vEq (.int .i64 (a27)) (.int .i64 (a27))) (need bot (vEq (.str (List.drop (Int.toNat a) s)) (.str (List.drop (Int.toNat a) s))) (need bot (vEq (.int .i64 12) (.int .i64 12)) (need bot (vEq (.ptr 3 0 0) (.ptr 3 0 0)) (jn (need bot (GndR (o)) (need bot (GndR (o)) (k (.ret (.agg [(.int .i64 12),(.str (List.take (Int.toNat a27) (List.drop (Int.toNat a) s)))]) (hp [.row 0 94 5 0 (some 1) [(.agg [(.str (s)),(.int .i64 (a)),(.sl 1 (v) 0 (n) none),(.bool false),(.int .u16 (e))])],.row (v) 3 1 0 none (o)])))))
 (fun j6:β=>bif decide ((↑n:Int)=0) then (j6)
 else (nI bot ((↑n:Int)-1) (need bot (((0:Int)≤((↑n:Int)-1))∧(((↑n:Int)-1)<((↑n:Int)))) (j6)))))))))))))
 else (need bot ((-9223372036854775808≤6)∧((6:Int)≤9223372036854775807)) (need bot (GndR (o)) (need bot (((0:Int)≤6)∧((6:Int)<9)) (PR.bnd bot (X.1 (.call 141 [(.str (List.drop (Int.toNat a) s))] Heap.empty)) (fun a32 =>
 bif decide (0<a32) then (need bot (((0:Int)≤(a32))∧((a32)≤((↑(List.length (List.drop (Int.toNat a) s)):Int)))) (need bot (vEq (.agg [(.int .i64 6),(.str (List.take (Int.toNat a32) (List.drop (Int.toNat a) s)))]) (.agg [(.int .i64 6),(.str (List.take (Int.toNat a32) (List.drop (Int.toNat a) s)))])) (need bot (((0:Int)≤(a32))∧((a32)≤((↑(List.length (List.drop (Int.toNat a) s)):Int)))) (need bot (vEq (.str (List.take (Int.toNat a32) (List.drop (Int.toNat a) s))) (.str (List.take (Int.toNat a32) (List.drop (Int.toNat a) s)))) (need bot (vEq (.int .i64 (a32)) (.int .i64 (a32))) (need bot (vEq (.str (List.drop (Int.toNat a) s)) (.str (List.drop (Int.toNat a) s))) (need bot (vEq (.int .i64 6) (.int .i64 6)) (need bot (vEq (.ptr 3 0 0) (.ptr 3 0 0)) (jn (need bot (GndR (o)) (need bot (GndR (o)) (k (.ret (.agg [(.int .i64 6),(.str (List.take (Int.toNat a32) (List.drop (Int.toNat a) s)))]) (hp [.row 0 94 5 0 (some 1) [(.agg [(.str (s)),(.int .i64 (a)),(.sl 1 (v) 0 (n) none),(.bool false),(.int .u16 (e))])],.row (v) 3 1 0 none (o)])))))
 (fun j7:β=>bif decide ((↑n:Int)=0) then (j7)
 else (nI bot ((↑n:Int)-1) (need bot (((0:Int)≤((↑n:Int)-1))∧(((↑n:Int)-1)<((↑n:Int)))) (j7)))))))))))))
 else (need bot ((-9223372036854775808≤7)∧((7:Int)≤9223372036854775807)) (need bot (GndR (o)) (need bot (((0:Int)≤7)∧((7:Int)<9)) (PR.bnd bot (X.1 (.call 142 [(.str (List.drop (Int.toNat a) s))] Heap.empty)) (fun a37 =>
 bif decide (0<a37) then (need bot (((0:Int)≤(a37))∧((a37)≤((↑(List.length (List.drop (Int.toNat a) s)):Int)))) (need bot (vEq (.agg [(.int .i64 7),(.str (List.take (Int.toNat a37) (List.drop (Int.toNat a) s)))]) (.agg [(.int .i64 7),(.str (List.take (Int.toNat a37) (List.drop (Int.toNat a) s)))])) (need bot (((0:Int)≤(a37))∧((a37)≤((↑(List.length (List.drop (Int.toNat a) s)):Int)))) (need bot (vEq (.str (List.take (Int.toNat a37) (List.drop (Int.toNat a) s))) (.str (List.take (Int.toNat a37) (List.drop (Int.toNat a) s)))) (need bot (vEq (.int .i64 (a37)) (.int .i64 (a37))) (need bot (vEq (.str (List.drop (Int.toNat a) s)) (.str (List.drop (Int.toNat a) s))) (need bot (vEq (.int .i64 7) (.int .i64 7)) (need bot (vEq (.ptr 3 0 0) (.ptr 3 0 0)) (jn (need bot (GndR (o)) (need bot (GndR (o)) (k (.ret (.agg [(.int .i64 7),(.str (List.take (Int.toNat a37) (List.drop (Int.toNat a) s)))]) (hp [.row 0 94 5 0 (some 1) [(.agg [(.str (s)),(.int .i64 (a)),(.sl 1 (v) 0 (n) none),(.bool true),(.int .u16 (e))])],.row (v) 3 1 0 none (o)])))))
 (fun j8:β=>bif decide ((↑n:Int)=0) then (j8)
 else (nI bot ((↑n:Int)-1) (need bot (((0:Int)≤((↑n:Int)-1))∧(((↑n:Int)-1)<((↑n:Int)))) (j8)))))))))))))
 else (need bot ((-9223372036854775808≤8)∧((8:Int)≤9223372036854775807)) (need bot (GndR (o)) (need bot (((0:Int)≤8)∧((8:Int)<9)) (PR.bnd bot (X.1 (.call 144 [(.str (List.drop (Int.toNat a) s))] Heap.empty)) (fun a42 =>
 bif decide (0<a42) then (need bot (((0:Int)≤(a42))∧((a42)≤((↑(List.length (List.drop (Int.toNat a) s)):Int)))) (need bot (vEq (.agg [(.int .i64 13),(.str (List.take (Int.toNat a42) (List.drop (Int.toNat a) s)))]) (.agg [(.int .i64 13),(.str (List.take (Int.toNat a42) (List.drop (Int.toNat a) s)))])) (need bot (((0:Int)≤(a42))∧((a42)≤((↑(List.length (List.drop (Int.toNat a) s)):Int)))) (need bot (vEq (.str (List.take (Int.toNat a42) (List.drop (Int.toNat a) s))) (.str (List.take (Int.toNat a42) (List.drop (Int.toNat a) s)))) (need bot (vEq (.int .i64 (a42)) (.int .i64 (a42))) (need bot (vEq (.str (List.drop (Int.toNat a) s)) (.str (List.drop (Int.toNat a) s))) (need bot (vEq (.int .i64 13) (.int .i64 13)) (need bot (vEq (.ptr 3 0 0) (.ptr 3 0 0)) (jn (need bot (GndR (o)) (need bot (GndR (o)) (k (.ret (.agg [(.int .i64 13),(.str (List.take (Int.toNat a42) (List.drop (Int.toNat a) s)))]) (hp [.row 0 94 5 0 (some 1) [(.agg [(.str (s)),(.int .i64 (a)),(.sl 1 (v) 0 (n) none),(.bool false),(.int .u16 (e))])],.row (v) 3 1 0 none (o)])))))
 (fun j9:β=>bif decide ((↑n:Int)=0) then (j9)
 else (nI bot ((↑n:Int)-1) (need bot (((0:Int)≤((↑n:Int)-1))∧(((↑n:Int)-1)<((↑n:Int)))) (bif decide (List.take (Int.toNat a42) (List.drop (Int.toNat a) s)=[40]) then (need bot (((v)=(v))∧(ldX PP 3 1 (o) ((0+Int.toNat ((↑n:Int)-1))*1))) (nI bot (gI 1 o ((0+Int.toNat ((↑n:Int)-1))*1) 0+1) (need bot ((v)=(v)) (need bot (stX PP 3 (V.int IntKind.i64 (gI 1 o ((0+Int.toNat ((↑n:Int)-(1:Int)))*1) 0+(1:Int))) 0 1 o ((0+Int.toNat ((↑n:Int)-(1:Int)))*1)) (need bot (GndR (yG0 1 o ((0+Int.toNat ((↑n:Int)-1))*1) (V.int IntKind.i64 (gI 1 o ((0+Int.toNat ((↑n:Int)-1))*1) 0+1)))) (need bot (GndR (yG0 1 o ((0+Int.toNat ((↑n:Int)-1))*1) (V.int IntKind.i64 (gI 1 o ((0+Int.toNat ((↑n:Int)-1))*1) 0+1)))) (k (.ret (.agg [(.int .i64 13),(.str (List.take (Int.toNat a42) (List.drop (Int.toNat a) s)))]) (hp [.row 0 94 5 0 (some 1) [(.agg [(.str (s)),(.int .i64 (a)),(.sl 1 (v) 0 (n) none),(.bool false),(.int .u16 (e))])],.row (v) 3 1 0 none (yG0 1 o ((0+Int.toNat ((↑n:Int)-1))*1) (V.int IntKind.i64 (gI 1 o ((0+Int.toNat ((↑n:Int)-1))*1) 0+1)))])))))))))
 else (jn (bif decide (List.take (Int.toNat a42) (List.drop (Int.toNat a) s)=[41]) then (nI bot ((↑n:Int)-1) (need bot (((0:Int)≤((↑n:Int)-1))∧(((↑n:Int)-1)≤((↑n:Int)))) (need bot (GndR (o)) (need bot (GndR (o)) (k (.ret (.agg [(.int .i64 10),(.str (List.take (Int.toNat a42) (List.drop (Int.toNat a) s)))]) (hp [.row 0 94 5 0 (some 1) [(.agg [(.str (s)),(.int .i64 (a)),(.sl 1 (v) 0 (Int.toNat ((↑n:Int)-1)) none),(.bool true),(.int .u16 (e))])],.row (v) 3 1 0 none (o)])))))))
 else (j9))
 (fun j10:β=>bif decide (List.take (Int.toNat a42) (List.drop (Int.toNat a) s)=[41]) then (need bot (((v)=(v))∧(ldX PP 3 1 (o) ((0+Int.toNat ((↑n:Int)-1))*1))) (bif decide (0<gI 1 o ((0+Int.toNat ((↑n:Int)-1))*1) 0) then (need bot (((v)=(v))∧(ldX PP 3 1 (o) ((0+Int.toNat ((↑n:Int)-1))*1))) (nI bot (gI 1 o ((0+Int.toNat ((↑n:Int)-1))*1) 0-1) (need bot ((v)=(v)) (need bot (stX PP 3 (V.int IntKind.i64 (gI 1 o ((0+Int.toNat ((↑n:Int)-(1:Int)))*1) 0-(1:Int))) 0 1 o ((0+Int.toNat ((↑n:Int)-(1:Int)))*1)) (need bot (GndR (yG0 1 o ((0+Int.toNat ((↑n:Int)-1))*1) (V.int IntKind.i64 (gI 1 o ((0+Int.toNat ((↑n:Int)-1))*1) 0-1)))) (need bot (GndR (yG0 1 o ((0+Int.toNat ((↑n:Int)-1))*1) (V.int IntKind.i64 (gI 1 o ((0+Int.toNat ((↑n:Int)-1))*1) 0-1)))) (k (.ret (.agg [(.int .i64 13),(.str (List.take (Int.toNat a42) (List.drop (Int.toNat a) s)))]) (hp [.row 0 94 5 0 (some 1) [(.agg [(.str (s)),(.int .i64 (a)),(.sl 1 (v) 0 (n) none),(.bool false),(.int .u16 (e))])],.row (v) 3 1 0 none (yG0 1 o ((0+Int.toNat ((↑n:Int)-1))*1) (V.int IntKind.i64 (gI 1 o ((0+Int.toNat ((↑n:Int)-1))*1) 0-1)))])))))))))
 else (j10)))
 else (j10))))))))))))))))
 else (need bot ((-9223372036854775808≤9)∧((9:Int)≤9223372036854775807)) (need bot (GndR (o)) (need bot (GndR (o)) (need bot (GndR (o)) (k (.ret (.agg [(.int .i64 0),(.str [])]) (hp [.row 0 94 5 0 (some 1) [(.agg [(.str (s)),(.int .i64 (a)),(.sl 1 (v) 0 (n) none),(.bool (i)),(.int .u16 11)])],.row (v) 3 1 0 none (o)]))))))))
 (fun _=>bot))))))
 (fun _=>bot))))))
 (fun _=>bot))))))
 (fun _=>bot))))))
 (fun _=>bot))))))
 (fun _=>bot))))))
 (fun _=>bot))))))
 (fun _=>bot))))))
 (fun _=>bot))):=by kernel_rfl
end Go.AM
